import Derived.Test.YtnifcbofkodjeaaWaAbPu8
set_option linter.unusedVariables false
namespace Go.Ab

theorem ins_len (l : List Vl) (no : Int) (t : List UInt8) : (insF l no t).length = l.length + 1 := by
  unfold insF
  split
  · rename_i j h
    have := idx_lt h
    simp only [List.length_append, List.length_cons, List.length_take, List.length_drop]
    omega
  · simp

def stepF (m : Ms) (o : Ms) (no : Int) : Ms := match getF m.2 no with
  | some t => (o.1, insF (woF o.2 no) no t)
  | none => o
theorem step_len (m o : Ms) (no : Int) : (stepF m o no).2.length ≤ o.2.length + 1 := by
  unfold stepF
  split
  · have : (woF o.2 no).length ≤ o.2.length := List.length_filter_le _ _
    simp only [ins_len]
    omega
  · omega

def endF (codes : List Vl) (e : Int) (o : Ms) : Ms := (o.1, insF (woF o.2 39) 39 (codeF codes e))

theorem build_loop (k : Nat) (s0 s1 : Int) (s2 : List (Int × Int × Int × Int × Int)) (s3 : List (List UInt8 × List UInt8)) (s4 : List (Int × Int × Int × List UInt8 × List (List UInt8 × List UInt8))) (echo : List Int) (codes : List Vl) (m : Ms) (f1 f2 : Int) (jk : List UInt8)
    (h1 : echo.length < 100000) (h2 : codes.length < 100000) (h3 : m.2.length < 100000) (hk : echo.length + codes.length + m.2.length + 10 < k) : ∀ (d i n : Nat) (o : Ms), echo.length = i + d → d < n → o.2.length ≤ i →
    loopP (fun R p => f20_b6 k R p) n (echo, (echo.length : Int), (i : Int), s0, s1, s2, s3, s4, echo, codes, m.1, m.2, f1, f2, jk, o) = some (endF codes f1 ((echo.drop i).foldl (stepF m) o), true, ()) := by
  intro d
  induction d with
  | zero =>
    intro i n o hi hn ho
    obtain ⟨n, rfl⟩ : ∃ m, n = m + 1 := ⟨n - 1, by omega⟩
    rw [loopP_succ]
    dsimp only [f20_b6]
    rw [cond_no (by omega), List.drop_eq_nil_of_le (by omega), code_ok (by dsimp only; omega) (by dsimp only; omega), Option.bind_some]
    dsimp only
    rw [with_ok (by omega) (by omega), Option.bind_some]
    rfl
  | succ d ih =>
    intro i n o hi hn ho
    obtain ⟨n, rfl⟩ : ∃ m, n = m + 1 := ⟨n - 1, by omega⟩
    rw [loopP_succ]
    have h : i < echo.length := by omega
    have ih := fun x => ih (i + 1) n x
    generalize loopP (fun R p => f20_b6 k R p) n = L at *
    dsimp only [f20_b6]
    rw [cond_yes (by omega), chk_decide (by omega), chk_decide (by omega), toNat_cast, at_index h, wsucc (by omega), show (m.1, m.2) = m from rfl, get_ok (by omega) (by omega), Option.bind_some, List.drop_eq_getElem_cons h, List.foldl_cons]
    have hs := step_len m o echo[i]
    have ih := ih (stepF m o echo[i]) (by omega) (by omega) (by omega)
    rw [← ih]
    unfold stepF
    cases hg : getF m.2 echo[i] with
    | none => rfl
    | some t =>
      dsimp only [found]
      rw [cond_true, with_ok (by omega) (by omega), Option.bind_some]

def buildF (s : Sd) (m : Ms) (e : Int) : Ms × Bool × Unit := if reqB m.1 = true then (endF s.2.2.2 e (s.2.2.1.foldl (stepF m) (respF m.1, [])), true, ()) else (([], []), false, ())

theorem build_ok {k : Nat} {s : Sd} {m : Ms} {f : Int × Int} (h1 : s.2.2.1.length < 100000) (h2 : s.2.2.2.length < 100000) (h3 : m.2.length < 100000) (hk : s.2.2.1.length + s.2.2.2.length + m.2.length + m.1.length + 10 < k) : f20 k (s, m, f, ()) = some (buildF s m f.1) := by
  obtain ⟨⟨s0, s1, s2⟩, ⟨s3, s4⟩, echo, codes⟩ := s
  obtain ⟨m1, m2⟩ := m
  obtain ⟨f1, f2⟩ := f
  dsimp only at h1 h2 h3 hk
  show f20_m k (f20_l6 k) _ = _
  dsimp only [f20_m]
  rw [response_ok (by omega), Option.bind_some]
  unfold buildF
  dsimp only
  cases hr : reqB m1 with
  | false => rfl
  | true =>
    have := build_loop k s0 s1 s2 s3 s4 echo codes (m1, m2) f1 f2 [] h1 h2 h3 (by dsimp only; omega) echo.length 0 k (respF m1, []) (by omega) (by omega) (by simp)
    exact this

/-- The document's. -/
theorem rbuild_loop (k : Nat) (s0 s1 : Int) (s2 : List (Int × Int × Int × Int × Int)) (s3 : List (List UInt8 × List UInt8)) (s4 : List (Int × Int × Int × List UInt8 × List (List UInt8 × List UInt8))) (echo : List Int) (codes : List Vl) (m : Ms) (f1 f2 : Int) (jk : List UInt8)
    (h1 : echo.length < 100000) (h2 : codes.length < 100000) (h3 : m.2.length < 100000) (hk : echo.length + codes.length + m.2.length + 10 < k) : ∀ (d i n : Nat) (o : Ms), echo.length = i + d → d < n → o.2.length ≤ i →
    loopP (fun R p => f23_b5 k R p) n ((i : Int), s0, s1, s2, s3, s4, echo, codes, m.1, m.2, f1, f2, jk, o) = some (endF codes f1 ((echo.drop i).foldl (stepF m) o), true, ()) := by
  intro d
  induction d with
  | zero =>
    intro i n o hi hn ho
    obtain ⟨n, rfl⟩ : ∃ m, n = m + 1 := ⟨n - 1, by omega⟩
    rw [loopP_succ]
    dsimp only [f23_b5]
    rw [cond_no (by omega), List.drop_eq_nil_of_le (by omega), rcode_ok (by dsimp only; omega) (by dsimp only; omega), Option.bind_some]
    dsimp only
    rw [rwith_ok (by omega) (by omega), Option.bind_some]
    rfl
  | succ d ih =>
    intro i n o hi hn ho
    obtain ⟨n, rfl⟩ : ∃ m, n = m + 1 := ⟨n - 1, by omega⟩
    rw [loopP_succ]
    have h : i < echo.length := by omega
    have ih := fun x => ih (i + 1) n x
    generalize loopP (fun R p => f23_b5 k R p) n = L at *
    dsimp only [f23_b5]
    rw [cond_yes (by omega), chk_decide (by omega), chk_decide (by omega), toNat_cast, at_index h, wsucc (by omega), show (m.1, m.2) = m from rfl, find_ok (by omega) (by omega), List.drop_eq_getElem_cons h, List.foldl_cons]
    have hs := step_len m o echo[i]
    have ih := ih (stepF m o echo[i]) (by omega) (by omega) (by omega)
    rw [← ih]
    unfold stepF
    rw [firstF_get]
    unfold firstF
    cases hg : posF m.2 echo[i] with
    | none => rfl
    | some j =>
      have hj := pos_lt hg
      generalize hz : idxI (some j) = z
      rw [Option.bind_some]
      dsimp only
      have hz : z = (j : Int) := hz.symm
      subst hz
      rw [cond_yes (by omega), chk_decide (by omega), chk_decide (by omega), chk_decide (by omega), chk_decide (by omega), toNat_cast, rwith_ok (by omega) (by omega), Option.bind_some]
      rfl

theorem rbuild_ok {k : Nat} {s : Sd} {m : Ms} {f : Int × Int} (h1 : s.2.2.1.length < 100000) (h2 : s.2.2.2.length < 100000) (h3 : m.2.length < 100000) (h4 : m.1.length < 100000) (hk : s.2.2.1.length + s.2.2.2.length + m.2.length + m.1.length + 10 < k) : f23 k (s, m, f, ()) = some (buildF s m f.1) := by
  obtain ⟨⟨s0, s1, s2⟩, ⟨s3, s4⟩, echo, codes⟩ := s
  obtain ⟨m1, m2⟩ := m
  obtain ⟨f1, f2⟩ := f
  dsimp only at h1 h2 h3 h4 hk
  show f23_m k (f23_l5 k) _ = _
  dsimp only [f23_m]
  rw [rrequest_ok (by omega) (by omega), Option.bind_some]
  unfold buildF
  dsimp only
  cases hr : reqB m1 with
  | false => rfl
  | true =>
    rw [Bool.not_true, cond_false, rresponse_ok (by omega) (by omega) hr, Option.bind_some]
    have := rbuild_loop k s0 s1 s2 s3 s4 echo codes (m1, m2) f1 f2 [] h1 h2 h3 (by dsimp only; omega) echo.length 0 k (respF m1, []) (by omega) (by omega) (by simp)
    exact this

end Go.Ab
