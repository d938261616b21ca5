import Derived.Test.YtnifcbofkodjeaaWaAbF1
import Derived.Test.YtnifcbofkodjeaaWaPuLib
set_option linter.unusedVariables false
namespace Go.Ab
abbrev Vl := Int × List UInt8
abbrev Ms := List UInt8 × List Vl

/-- msg.Get -/
def getF (l : List Vl) (no : Int) : Option (List UInt8) := (l.find? fun v => v.1 == no).map (·.2)
def found (o : Option (List UInt8)) : List UInt8 × Bool × Unit := match o with | some t => (t, true, ()) | none => ([], false, ())

theorem get_loop (k : Nat) (no : Int) (l : List Vl) (hl : l.length < 5864062014700) : ∀ (d i n : Nat), l.length = i + d → d < n → loopP (fun R p => f26_b2 k R p) n (no, l, (l.length : Int), (i : Int)) = some (found (getF (l.drop i) no)) := by
  intro d
  induction d with
  | zero =>
    intro i n hi hn
    obtain ⟨n, rfl⟩ : ∃ m, n = m + 1 := ⟨n - 1, by omega⟩
    rw [loopP_succ]
    generalize hL : loopP (fun R p => f26_b2 k R p) n = L
    simp only [f26_b2]
    rw [cond_no (by omega), List.drop_eq_nil_of_le (by omega)]
    rfl
  | succ d ih =>
    intro i n hi hn
    obtain ⟨n, rfl⟩ : ∃ m, n = m + 1 := ⟨n - 1, by omega⟩
    rw [loopP_succ]
    have h : i < l.length := by omega
    have ih := fun x => ih (i + 1) n x
    generalize loopP (fun R p => f26_b2 k R p) n = L at *
    simp only [f26_b2]
    rw [cond_yes (by omega), chk_decide (by omega), chk_decide (by omega), toNat_cast, at_index h, wsucc (by omega), ih (by omega) (by omega), List.drop_eq_getElem_cons h]
    unfold getF
    rw [List.find?_cons]
    cases hb : (l[i].1 == no) <;> rfl

theorem get_ok {k : Nat} {m : Ms} {no : Int} (hl : m.2.length < 5864062014700) (hk : m.2.length < k) : f26 k (m, no, ()) = some (found (getF m.2 no)) := by
  show loopP (fun R p => f26_b2 k R p) k (no, m.2, (m.2.length : Int), (0 : Int)) = _
  exact get_loop k no m.2 hl m.2.length 0 k (by omega) hk

/-- msg.Without -/
def woF (l : List Vl) (no : Int) : List Vl := l.filter fun v => v.1 != no
theorem wo_loop (k : Nat) (no : Int) (l : List Vl) (a t : List UInt8) (hl : l.length < 5864062014700) : ∀ (d i n : Nat) (acc : List Vl), l.length = i + d → acc.length ≤ i → d < n →
    loopP (fun R p => f38_b3 k R p) n (no, l, (l.length : Int), (i : Int), a, t, acc) = some ((t, acc ++ woF (l.drop i) no), ()) := by
  intro d
  induction d with
  | zero =>
    intro i n acc hi ha hn
    obtain ⟨n, rfl⟩ : ∃ m, n = m + 1 := ⟨n - 1, by omega⟩
    rw [loopP_succ]
    generalize hL : loopP (fun R p => f38_b3 k R p) n = L
    simp only [f38_b3]
    rw [cond_no (by omega), List.drop_eq_nil_of_le (by omega)]
    simp [woF]
  | succ d ih =>
    intro i n acc hi ha hn
    obtain ⟨n, rfl⟩ : ∃ m, n = m + 1 := ⟨n - 1, by omega⟩
    rw [loopP_succ]
    have h : i < l.length := by omega
    have ih := fun x => ih (i + 1) n x
    generalize loopP (fun R p => f38_b3 k R p) n = L at *
    simp only [f38_b3]
    rw [cond_yes (by omega), chk_decide (by omega), chk_decide (by omega), toNat_cast, at_index h, wsucc (by omega), List.drop_eq_getElem_cons h]
    unfold woF
    rw [List.filter_cons]
    cases hb : (l[i].1 != no) with
    | true =>
      simp only [cond_true, if_true]
      rw [chk_decide (by simp only [List.length_singleton]; omega), chk_decide (by simp only [List.length_singleton]; omega), ih _ (by omega) (by simp; omega) (by omega)]
      simp [woF]
    | false =>
      simp only [cond_false]
      rw [ih _ (by omega) (by omega) (by omega)]
      simp [woF]

theorem wo_ok {k : Nat} {m : Ms} {no : Int} (hl : m.2.length < 5864062014700) (hk : m.2.length < k) : f38 k (m, no, ()) = some ((m.1, woF m.2 no), ()) := by
  show loopP (fun R p => f38_b3 k R p) k (no, m.2, (m.2.length : Int), (0 : Int), [], m.1, []) = _
  exact wo_loop k no m.2 [] m.1 hl m.2.length 0 k [] (by omega) (by simp) hk

/-- groatref16.Same -/
theorem same_loop (k : Nat) (a b : Ms) (hl : a.2.length < 5864062014700) (hab : a.2.length = b.2.length) : ∀ (d i n : Nat), a.2.length = i + d → d < n → loopP (fun R p => f24_b4 k R p) n ((i : Int), a.1, a.2, b) = some (a.2.drop i == b.2.drop i, ()) := by
  intro d
  induction d with
  | zero =>
    intro i n hi hn
    obtain ⟨n, rfl⟩ : ∃ m, n = m + 1 := ⟨n - 1, by omega⟩
    rw [loopP_succ]
    generalize hL : loopP (fun R p => f24_b4 k R p) n = L
    simp only [f24_b4]
    rw [cond_no (by omega), List.drop_eq_nil_of_le (by omega), List.drop_eq_nil_of_le (by omega)]
    rfl
  | succ d ih =>
    intro i n hi hn
    obtain ⟨n, rfl⟩ : ∃ m, n = m + 1 := ⟨n - 1, by omega⟩
    rw [loopP_succ]
    have h : i < a.2.length := by omega
    have h' : i < b.2.length := by omega
    have ih := fun x => ih (i + 1) n x
    generalize loopP (fun R p => f24_b4 k R p) n = L at *
    simp only [f24_b4]
    rw [cond_yes (by omega), chk_decide (by omega), chk_decide (by omega), chk_decide (by omega), chk_decide (by omega), toNat_cast, at_index h, at_index h', wsucc (by omega), ih (by omega) (by omega),
      List.drop_eq_getElem_cons h, List.drop_eq_getElem_cons h']
    have e : ((a.2[i].1 == b.2[i].1) && ((a.2[i].2 == b.2[i].2) && true)) = (a.2[i] == b.2[i]) := by rw [Bool.and_true]; rfl
    rw [e, List.cons_beq_cons]
    cases hb : (a.2[i] == b.2[i]) <;> simp

theorem same_ok {k : Nat} {a b : Ms} (hl : a.2.length < 5864062014700) (hk : a.2.length < k) : f24 k (a, b, ()) = some (a == b, ()) := by
  show f24_m k (f24_l4 k) (a, b, ()) = _
  simp only [f24_m]
  have hp : (a == b) = ((a.1 == b.1) && (a.2 == b.2)) := rfl
  rw [hp]
  cases h1 : (a.1 == b.1) with
  | false => rfl
  | true =>
    by_cases h2 : a.2.length = b.2.length
    · rw [h2]
      have : f24_l4 k (((0 : Nat) : Int), a.1, a.2, b) = _ := same_loop k a b hl h2 a.2.length 0 k (by omega) hk
      simpa using this
    · have h3 : (a.2 == b.2) = false := by
        cases hb : (a.2 == b.2) with
        | false => rfl
        | true => exact absurd (congrArg List.length (beq_iff_eq.1 hb)) h2
      have h4 : (((a.2.length : Nat) : Int) != ((b.2.length : Nat) : Int)) = true := by simp; omega
      simp only [Bool.not_true, cond_false, h4, cond_true, h3, Bool.and_false]

/-- msg.With -/
theorem f77_ok (k : Nat) (v : Vl) (no : Int) : f77 k (v, no, ()) = some (decide (v.1 > no), ()) := rfl
def idxF (l : List Vl) (no : Int) : Option Nat := l.findIdx? fun v => decide (v.1 > no)
theorem idx_loop (k : Nat) (no : Int) (l : List Vl) (hl : l.length < 5864062014700) : ∀ (d i n : Nat) (q : List Vl → Int → Int → (List Vl × Int × Int × Int)), True := fun _ _ _ _ => trivial

end Go.Ab
