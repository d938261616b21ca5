import Derived.Test.YtnifcbofkodjeaaWaAbPu9
import Derived.Test.YtnifcbofkodjeaaWaAbS
set_option linter.unusedVariables false
namespace Go.Ab

theorem awake23 (n : Nat) : f17 (n + 300) () = some (true, ()) := by kernel_rfl

theorem great_loop (k : Nat) (r : Int × Int × List (Int × Int × Int × Int × Int) × List (List UInt8 × List UInt8) × List (Int × Int × Int × List UInt8 × List (List UInt8 × List UInt8)) × List Int) (l : List Vl) (hl : l.length < 1000000) : ∀ (d i n : Nat), l.length = i + d → d < n →
    ∃ b, loopP (fun R p => f18_b4 k R p) n ((i : Int), r.1, r.2.1, r.2.2.1, r.2.2.2.1, r.2.2.2.2.1, r.2.2.2.2.2, l) = some (b, ()) := by
  intro d
  induction d with
  | zero =>
    intro i n hi hn
    obtain ⟨n, rfl⟩ : ∃ m, n = m + 1 := ⟨n - 1, by omega⟩
    rw [loopP_succ]
    dsimp only [f18_b4]
    rw [cond_no (by omega)]
    exact ⟨_, rfl⟩
  | succ d ih =>
    intro i n hi hn
    obtain ⟨n, rfl⟩ : ∃ m, n = m + 1 := ⟨n - 1, by omega⟩
    rw [loopP_succ]
    have h : i < l.length := by omega
    have ih := fun x => ih (i + 1) n x
    generalize loopP (fun R p => f18_b4 k R p) n = L at *
    dsimp only [f18_b4]
    rw [cond_yes (by omega), chk_decide (by omega), chk_decide (by omega), toNat_cast, at_index h, wsucc (by omega)]
    by_cases hg : ((l[i].2.length : Nat) : Int) > 1200
    · rw [cond_yes hg]
      exact ⟨_, rfl⟩
    · rw [cond_no hg]
      exact ih (by omega) (by omega)

theorem great_ok {k : Nat} {s : Sd} (hk : 400 < k) : ∃ b, f18 k (s, ()) = some (b, ()) ∧ (b = false → s.1.2.2.length ≤ 200 ∧ s.2.2.1.length ≤ 300 ∧ s.2.2.2.length ≤ 300) := by
  obtain ⟨⟨s0, s1, s2⟩, ⟨s3, s4⟩, echo, codes⟩ := s
  show ∃ b, f18_m k (f18_l4 k) _ = _ ∧ _
  dsimp only [f18_m]
  by_cases h1 : s2.length > 200
  · rw [cond_yes (by omega)]
    exact ⟨true, rfl, fun h => by cases h⟩
  · rw [cond_no (by omega)]
    by_cases h2 : echo.length > 300
    · rw [cond_yes (by omega)]
      exact ⟨true, rfl, fun h => by cases h⟩
    · rw [cond_no (by omega)]
      by_cases h3 : codes.length > 300
      · rw [cond_yes (by omega)]
        exact ⟨true, rfl, fun h => by cases h⟩
      · rw [cond_no (by omega)]
        obtain ⟨b, hb⟩ := great_loop k (s0, s1, s2, s3, s4, echo) codes (by omega) codes.length 0 k (by omega) (by omega)
        exact ⟨b, hb, fun _ => ⟨by omega, by omega, by omega⟩⟩

theorem mgreat_loop (k : Nat) (t : List UInt8) (l : List Vl) (hl : l.length < 1000000) : ∀ (d i n : Nat), l.length = i + d → d < n → ∃ b, loopP (fun R p => f19_b4 k R p) n ((i : Int), t, l) = some (b, ()) := by
  intro d
  induction d with
  | zero =>
    intro i n hi hn
    obtain ⟨n, rfl⟩ : ∃ m, n = m + 1 := ⟨n - 1, by omega⟩
    rw [loopP_succ]
    dsimp only [f19_b4]
    rw [cond_no (by omega)]
    exact ⟨_, rfl⟩
  | succ d ih =>
    intro i n hi hn
    obtain ⟨n, rfl⟩ : ∃ m, n = m + 1 := ⟨n - 1, by omega⟩
    rw [loopP_succ]
    have h : i < l.length := by omega
    have ih := fun x => ih (i + 1) n x
    generalize loopP (fun R p => f19_b4 k R p) n = L at *
    dsimp only [f19_b4]
    rw [cond_yes (by omega), chk_decide (by omega), chk_decide (by omega), toNat_cast, at_index h, wsucc (by omega)]
    by_cases hg : ((l[i].2.length : Nat) : Int) > 1200
    · rw [cond_yes hg]
      exact ⟨_, rfl⟩
    · rw [cond_no hg]
      exact ih (by omega) (by omega)

theorem mgreat_ok {k : Nat} {m : Ms} (hk : 400 < k) : ∃ b, f19 k (m, ()) = some (b, ()) ∧ (b = false → m.1.length ≤ 100 ∧ m.2.length ≤ 200) := by
  obtain ⟨m1, m2⟩ := m
  show ∃ b, f19_m k (f19_l4 k) _ = _ ∧ _
  dsimp only [f19_m]
  by_cases h1 : m1.length > 100
  · rw [cond_yes (by omega)]
    exact ⟨true, rfl, fun h => by cases h⟩
  · rw [cond_no (by omega)]
    by_cases h2 : m2.length > 200
    · rw [cond_yes (by omega)]
      exact ⟨true, rfl, fun h => by cases h⟩
    · rw [cond_no (by omega)]
      obtain ⟨b, hb⟩ := mgreat_loop k m1 m2 (by omega) m2.length 0 k (by omega) (by omega)
      exact ⟨b, hb, fun _ => ⟨by omega, by omega⟩⟩

theorem scopy_ok {k : Nat} {s : Sd} (h0 : s.1.2.2.length ≤ 200) (h1 : s.2.2.1.length ≤ 300) (h2 : s.2.2.2.length ≤ 300) : f21 k (s, ()) = some (s, ()) := by
  obtain ⟨⟨s0, s1, s2⟩, ⟨s3, s4⟩, echo, codes⟩ := s
  dsimp only at h0 h1 h2
  have h52 : f52 k ((s0, s1, s2), ()) = some ((s0, s1, s2), ()) := by
    show f52_m k _ = _
    dsimp only [f52_m]
    rw [chk_decide (by omega), chk_decide (by omega)]
    rfl
  show f21_m k _ = _
  dsimp only [f21_m]
  rw [h52, Option.bind_some, chk_decide (by omega), chk_decide (by omega), chk_decide (by omega), chk_decide (by omega)]
  rfl

theorem mcopy_ok {k : Nat} {m : Ms} (h : m.2.length ≤ 200) : f22 k (m, ()) = some (m, ()) := by
  show f22_m k _ = _
  dsimp only [f22_m]
  rw [chk_decide (by omega), chk_decide (by omega)]
  rfl

def law3 : List Ty := [(.pair (.pair (.int .i64) (.pair (.int .i64) (.sl (.pair (.int .i64) (.pair (.int .i64) (.pair (.int .i64) (.pair (.int .i64) (.int .i64)))))))) (.pair (.pair (.sl (.pair .str .str)) (.sl (.pair (.int .i64) (.pair (.int .i64) (.pair (.int .i64) (.pair .str (.sl (.pair .str .str)))))))) (.pair (.sl (.int .i64)) (.sl (.pair (.int .i64) .str))))), (.pair .str (.sl (.pair (.int .i64) .str))), (.pair (.int .i64) (.int .i64))]

theorem fold_len (m : Ms) : ∀ (l : List Int) (o : Ms), (l.foldl (stepF m) o).2.length ≤ o.2.length + l.length
  | [], o => by simp
  | x :: l, o => by
    have := fold_len m l (stepF m o x)
    have := step_len m o x
    rw [List.foldl_cons, List.length_cons]
    omega

theorem build_len (s : Sd) (m : Ms) (e : Int) : (buildF s m e).1.2.length ≤ s.2.2.1.length + 1 := by
  unfold buildF
  split
  · have h1 := fold_len m s.2.2.1 (respF m.1, [])
    have h2 : (woF (s.2.2.1.foldl (stepF m) (respF m.1, [])).2 39).length ≤ _ := List.length_filter_le _ _
    simp only [endF, ins_len]
    simp only [List.length_nil] at h1
    omega
  · simp

theorem pure3 (x : Dens law3) (h : WfAll law3 x) : ∃ k, f3 k x = some (true, ()) := by
  obtain ⟨s, m, f, u⟩ := (x : Sd × Ms × (Int × Int) × Unit)
  refine ⟨(s.2.2.1.length + s.2.2.2.length + m.2.length + m.1.length + 1000) + 300, ?_⟩
  generalize hN : s.2.2.1.length + s.2.2.2.length + m.2.length + m.1.length + 1000 = N
  show f3_m (N + 300) (s, m, f, ()) = _
  dsimp only [f3_m]
  rw [awake23, Option.bind_some]
  dsimp only
  rw [Bool.not_true, cond_false]
  obtain ⟨b, hb, hb'⟩ := great_ok (k := N + 300) (s := s) (by omega)
  rw [hb, Option.bind_some]
  dsimp only
  cases b with
  | true => rfl
  | false =>
    obtain ⟨g1, g2, g3⟩ := hb' rfl
    rw [cond_false]
    obtain ⟨c, hc, hc'⟩ := mgreat_ok (k := N + 300) (m := m) (by omega)
    rw [hc, Option.bind_some]
    dsimp only
    cases c with
    | true => rfl
    | false =>
      obtain ⟨g4, g5⟩ := hc' rfl
      rw [cond_false, scopy_ok g1 g2 g3, Option.bind_some]
      dsimp only
      rw [mcopy_ok g5, Option.bind_some]
      dsimp only
      rw [build_ok (by omega) (by omega) (by omega) (by omega), Option.bind_some, rbuild_ok (by omega) (by omega) (by omega) (by omega) (by omega), Option.bind_some]
      have hl := build_len s m f.1
      rw [show ((buildF s m f.1).2.1 == (buildF s m f.1).2.1) = true from by simp, cond_true, same_ok (by omega) (by omega), Option.bind_some]
      simp

end Go.Ab
