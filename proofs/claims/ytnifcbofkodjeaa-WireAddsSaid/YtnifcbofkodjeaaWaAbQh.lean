import Derived.Test.YtnifcbofkodjeaaWaAbQg
set_option linter.unusedVariables false
namespace Go.Ab

theorem great_loop2 (k : Nat) (r : Int × Int × List (Int × Int × Int × Int × Int) × List (List UInt8 × List UInt8) × List (Int × Int × Int × List UInt8 × List (List UInt8 × List UInt8)) × List Int) (l : List Vl) (hl : l.length < 1000000) : ∀ (d i n : Nat), l.length = i + d → d < n →
    ∃ b, loopP (fun R p => f18_b4 k R p) n ((i : Int), r.1, r.2.1, r.2.2.1, r.2.2.2.1, r.2.2.2.2.1, r.2.2.2.2.2, l) = some (b, ()) ∧ (b = false → ∀ x ∈ l.drop i, x.2.length ≤ 1200) := by
  intro d
  induction d with
  | zero =>
    intro i n hi hn
    obtain ⟨n, rfl⟩ : ∃ m, n = m + 1 := ⟨n - 1, by omega⟩
    rw [loopP_succ]
    dsimp only [f18_b4]
    rw [cond_no (by omega), List.drop_eq_nil_of_le (by omega)]
    exact ⟨_, rfl, fun _ x hx => by cases hx⟩
  | succ d ih =>
    intro i n hi hn
    obtain ⟨n, rfl⟩ : ∃ m, n = m + 1 := ⟨n - 1, by omega⟩
    rw [loopP_succ]
    have h : i < l.length := by omega
    have ih := fun x => ih (i + 1) n x
    generalize loopP (fun R p => f18_b4 k R p) n = L at *
    dsimp only [f18_b4]
    rw [cond_yes (by omega), chk_decide (by omega), chk_decide (by omega), toNat_cast, at_index h, wsucc (by omega)]
    by_cases hg : ((l[i].2.length : Nat) : Int) > 1200
    · rw [cond_yes hg]
      exact ⟨_, rfl, fun h => by cases h⟩
    · rw [cond_no hg]
      obtain ⟨b, h1, h2⟩ := ih (by omega) (by omega)
      refine ⟨b, h1, fun hb x hx => ?_⟩
      rw [List.drop_eq_getElem_cons h] at hx
      rcases List.mem_cons.1 hx with hx | hx
      · rw [hx]; omega
      · exact h2 hb x hx

theorem great_ok2 {k : Nat} {s : Sd} (hk : 400 < k) : ∃ b, f18 k (s, ()) = some (b, ()) ∧ (b = false → s.1.2.2.length ≤ 200 ∧ s.2.2.1.length ≤ 300 ∧ s.2.2.2.length ≤ 300 ∧ ∀ x ∈ s.2.2.2, x.2.length ≤ 1200) := by
  obtain ⟨⟨s0, s1, s2⟩, ⟨s3, s4⟩, echo, codes⟩ := s
  show ∃ b, f18_m k (f18_l4 k) _ = _ ∧ _
  dsimp only [f18_m]
  by_cases h1 : s2.length > 200
  · rw [cond_yes (by omega)]
    exact ⟨true, rfl, fun h => by cases h⟩
  · rw [cond_no (by omega)]
    by_cases h2 : echo.length > 300
    · rw [cond_yes (by omega)]
      exact ⟨true, rfl, fun h => by cases h⟩
    · rw [cond_no (by omega)]
      by_cases h3 : codes.length > 300
      · rw [cond_yes (by omega)]
        exact ⟨true, rfl, fun h => by cases h⟩
      · rw [cond_no (by omega)]
        obtain ⟨b, hb, hb2⟩ := great_loop2 k (s0, s1, s2, s3, s4, echo) codes (by omega) codes.length 0 k (by omega) (by omega)
        exact ⟨b, hb, fun h => ⟨by omega, by omega, by omega, by simpa using hb2 h⟩⟩

theorem mgreat_loop2 (k : Nat) (t : List UInt8) (l : List Vl) (hl : l.length < 1000000) : ∀ (d i n : Nat), l.length = i + d → d < n → ∃ b, loopP (fun R p => f19_b4 k R p) n ((i : Int), t, l) = some (b, ()) ∧ (b = false → ∀ x ∈ l.drop i, x.2.length ≤ 1200) := by
  intro d
  induction d with
  | zero =>
    intro i n hi hn
    obtain ⟨n, rfl⟩ : ∃ m, n = m + 1 := ⟨n - 1, by omega⟩
    rw [loopP_succ]
    dsimp only [f19_b4]
    rw [cond_no (by omega), List.drop_eq_nil_of_le (by omega)]
    exact ⟨_, rfl, fun _ x hx => by cases hx⟩
  | succ d ih =>
    intro i n hi hn
    obtain ⟨n, rfl⟩ : ∃ m, n = m + 1 := ⟨n - 1, by omega⟩
    rw [loopP_succ]
    have h : i < l.length := by omega
    have ih := fun x => ih (i + 1) n x
    generalize loopP (fun R p => f19_b4 k R p) n = L at *
    dsimp only [f19_b4]
    rw [cond_yes (by omega), chk_decide (by omega), chk_decide (by omega), toNat_cast, at_index h, wsucc (by omega)]
    by_cases hg : ((l[i].2.length : Nat) : Int) > 1200
    · rw [cond_yes hg]
      exact ⟨_, rfl, fun h => by cases h⟩
    · rw [cond_no hg]
      obtain ⟨b, h1, h2⟩ := ih (by omega) (by omega)
      refine ⟨b, h1, fun hb x hx => ?_⟩
      rw [List.drop_eq_getElem_cons h] at hx
      rcases List.mem_cons.1 hx with hx | hx
      · rw [hx]; omega
      · exact h2 hb x hx

theorem mgreat_ok2 {k : Nat} {m : Ms} (hk : 400 < k) : ∃ b, f19 k (m, ()) = some (b, ()) ∧ (b = false → m.1.length ≤ 100 ∧ m.2.length ≤ 200 ∧ ∀ x ∈ m.2, x.2.length ≤ 1200) := by
  obtain ⟨m1, m2⟩ := m
  show ∃ b, f19_m k (f19_l4 k) _ = _ ∧ _
  dsimp only [f19_m]
  by_cases h1 : m1.length > 100
  · rw [cond_yes (by omega)]
    exact ⟨true, rfl, fun h => by cases h⟩
  · rw [cond_no (by omega)]
    by_cases h2 : m2.length > 200
    · rw [cond_yes (by omega)]
      exact ⟨true, rfl, fun h => by cases h⟩
    · rw [cond_no (by omega)]
      obtain ⟨b, hb, hb2⟩ := mgreat_loop2 k m1 m2 (by omega) m2.length 0 k (by omega) (by omega)
      exact ⟨b, hb, fun h => ⟨by omega, by omega, by simpa using hb2 h⟩⟩

theorem ins_texts {l : List Vl} {no : Int} {t : List UInt8} {B : Nat} (h : ∀ x ∈ l, x.2.length ≤ B) (ht : t.length ≤ B) : ∀ x ∈ insF (woF l no) no t, x.2.length ≤ B := fun x hx => by
  rcases (insF_mem no t _ x).1 hx with e | e
  · rw [e]; exact ht
  · exact h x (List.mem_filter.1 e).1
theorem fold_texts {m : Ms} {B : Nat} (hm : ∀ x ∈ m.2, x.2.length ≤ B) : ∀ (l : List Int) (o : Ms), (∀ x ∈ o.2, x.2.length ≤ B) → ∀ x ∈ (l.foldl (stepF m) o).2, x.2.length ≤ B
  | [], o, h => h
  | y :: l, o, h => by
    refine fold_texts hm l (stepF m o y) ?_
    unfold stepF
    cases hg : getF m.2 y with
    | none => exact h
    | some v => exact ins_texts h (hm _ (getF_mem hg))
theorem codeF_len {l : List Vl} {B : Nat} (h : ∀ x ∈ l, x.2.length ≤ B) (e : Int) : (codeF l e).length ≤ B := by
  have mem : ∀ {e t}, firstF l e = some t → t.length ≤ B := by
    intro e t h'
    rw [← firstF_get] at h'
    exact h _ (getF_mem h')
  unfold codeF
  cases h1 : firstF l e with
  | some t => exact mem h1
  | none =>
    cases h2 : firstF l 0 with
    | some t => exact mem h2
    | none => simp
theorem build_texts {s : Sd} {m : Ms} {B : Nat} (hm : ∀ x ∈ m.2, x.2.length ≤ B) (hc : ∀ x ∈ s.2.2.2, x.2.length ≤ B) (e : Int) : ∀ x ∈ (buildF s m e).1.2, x.2.length ≤ B := by
  unfold buildF
  split
  · exact ins_texts (fold_texts hm _ _ (by simp)) (codeF_len hc e)
  · intro x hx
    cases hx
theorem build_mti {s : Sd} {m : Ms} (e : Int) (h : m.1.length ≤ 100) : (buildF s m e).1.1.length ≤ 110 := by
  unfold buildF
  split
  · have : ∀ (l : List Int) (o : Ms), (l.foldl (stepF m) o).1 = o.1 := by
      intro l
      induction l with
      | nil => intro o; rfl
      | cons x l ih => intro o; rw [List.foldl_cons, ih, step_mti]
    show ((s.2.2.1.foldl (stepF m) (respF m.1, [])).1).length ≤ _
    rw [this]
    unfold respF
    simp only [List.length_append, List.length_take, List.length_drop, List.length_singleton]
    omega
  · simp

def law5 : List Ty := law3
theorem pure5 (x : Dens law5) (h : WfAll law5 x) : ∃ k, f5 k x = some (true, ()) := by
  obtain ⟨s, m, f, u⟩ := (x : Sd × Ms × (Int × Int) × Unit)
  refine ⟨2000000 + 300, ?_⟩
  generalize hN : 2000000 = N
  show f5_m (N + 300) (s, m, f, ()) = _
  dsimp only [f5_m]
  rw [awake23, Option.bind_some]
  dsimp only
  rw [Bool.not_true, cond_false]
  obtain ⟨b, hb, hb'⟩ := great_ok2 (k := N + 300) (s := s) (by omega)
  rw [hb, Option.bind_some]
  dsimp only
  cases b with
  | true => rfl
  | false =>
    obtain ⟨g1, g2, g3, g4⟩ := hb' rfl
    rw [cond_false]
    obtain ⟨c, hc, hc'⟩ := mgreat_ok2 (k := N + 300) (m := m) (by omega)
    rw [hc, Option.bind_some]
    dsimp only
    cases c with
    | true => rfl
    | false =>
      obtain ⟨g5, g6, g7⟩ := hc' rfl
      rw [cond_false]
      obtain ⟨d, hd, hd'⟩ := rside_ok (k := N + 300) (s := s) (by omega) (by omega) (by omega) (fun x hx => by have := g4 x hx; omega) (by omega)
      rw [hd, Option.bind_some]
      dsimp only
      cases d with
      | false => rfl
      | true =>
        have hs := hd' rfl
        have hsm : Small s.1 m (N + 300) := ⟨by omega, by omega, by omega, fun x hx => by have := g7 x hx; omega, by omega⟩
        rw [Bool.not_true, cond_false, rmcheck_ok hsm, Option.bind_some]
        dsimp only
        by_cases hm : mCheck s.1 m = (0, 0)
        · rw [hm]
          simp only [show (((0 : Int) == 0) && (((0 : Int) == 0) && true)) = true from rfl, Bool.not_true, cond_false]
          rw [build_ok (by omega) (by omega) (by omega) (by omega), Option.bind_some]
          cases hr : reqB m.1 with
          | false =>
            have hbf : buildF s m f.1 = (([], []), false, ()) := by unfold buildF; rw [hr]; rfl
            rw [hbf]
            dsimp only
            rw [Bool.not_false, cond_true, request_ok (by omega), Option.bind_some, hr]
            dsimp only
            rw [Bool.not_false, cond_true, same_ok (by simp) (by simp), Option.bind_some]
            rfl
          | true =>
            obtain ⟨v1, v2⟩ := build_valid hs hm hr f.1
            have hok : (buildF s m f.1).2.1 = true := by unfold buildF; rw [if_pos hr]
            have hlen := build_len s m f.1
            have htx := build_texts (s := s) (m := m) (B := 1200) g7 g4 f.1
            have hmt := build_mti (s := s) (m := m) f.1 g5
            rw [hok, Bool.not_true, cond_false, mcheck_ok ⟨by omega, by omega, by omega, fun x hx => by have := htx x hx; omega, by omega⟩, Option.bind_some, v1]
            dsimp only
            rw [show (((0 : Int) == 0) && (((0 : Int) == 0) && true)) = true from rfl, cond_true, request_ok (by omega), Option.bind_some, v2]
            rfl
        · have : ((mCheck s.1 m).1 == 0 && ((mCheck s.1 m).2 == 0 && true)) = false := by
            rw [Bool.and_true]
            cases h1 : ((mCheck s.1 m).1 == 0 && (mCheck s.1 m).2 == 0) with
            | false => rfl
            | true =>
              rw [Bool.and_eq_true] at h1
              exact absurd (Prod.ext (eq_of_beq h1.1) (eq_of_beq h1.2)) hm
          rw [this]
          rfl

end Go.Ab
