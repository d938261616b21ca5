import Derived.Test.YtnifcbofkodjeaaWaAbPu6
set_option linter.unusedVariables false
namespace Go.Ab

/-- groatref16.Find -/
def posF (l : List Vl) (no : Int) : Option Nat := l.findIdx? fun v => v.1 == no
theorem find_loop (k : Nat) (no : Int) (t : List UInt8) (l : List Vl) (hl : l.length < 1000000) : ∀ (d i n : Nat), l.length = i + d → d < n → loopP (fun R p => f55_b2 k R p) n (no, (i : Int), t, l) = some (idxI ((posF (l.drop i) no).map (· + i)), ()) := by
  intro d
  induction d with
  | zero =>
    intro i n hi hn
    obtain ⟨n, rfl⟩ : ∃ m, n = m + 1 := ⟨n - 1, by omega⟩
    rw [loopP_succ]
    dsimp only [f55_b2]
    rw [cond_no (by omega), List.drop_eq_nil_of_le (by omega)]
    rfl
  | succ d ih =>
    intro i n hi hn
    obtain ⟨n, rfl⟩ : ∃ m, n = m + 1 := ⟨n - 1, by omega⟩
    rw [loopP_succ]
    have h : i < l.length := by omega
    have ih := fun x => ih (i + 1) n x
    generalize loopP (fun R p => f55_b2 k R p) n = L at *
    dsimp only [f55_b2]
    rw [cond_yes (by omega), chk_decide (by omega), chk_decide (by omega), toNat_cast, at_index h, wsucc (by omega), ih (by omega) (by omega), List.drop_eq_getElem_cons h]
    simp only [posF, List.findIdx?_cons]
    cases hb : (l[i].1 == no) with
    | true => simp [idxI]
    | false =>
      simp only [cond_false]
      cases (List.findIdx? (fun v : Vl => v.1 == no) (l.drop (i + 1))) with
      | none => rfl
      | some j => simp [idxI]; omega

theorem find_ok {k : Nat} {m : Ms} {no : Int} (hl : m.2.length < 1000000) (hk : m.2.length < k) : f55 k (m, no, ()) = some (idxI (posF m.2 no), ()) := by
  have := find_loop k no m.1 m.2 hl m.2.length 0 k (by omega) hk
  show loopP (fun R p => f55_b2 k R p) k (no, ((0 : Nat) : Int), m.1, m.2) = _
  rw [this]
  simp

theorem pos_lt {l : List Vl} {no : Int} {j : Nat} (h : posF l no = some j) : j < l.length := by
  unfold posF at h
  exact (List.findIdx?_eq_some_iff_findIdx_eq.1 h).1

/-- groatref16.Without -/
theorem rwo_loop (k : Nat) (no : Int) (l : List Vl) (b a t : List UInt8) (hl : l.length < 1000000) : ∀ (d i n : Nat) (acc : List Vl), l.length = i + d → acc.length ≤ i → d < n →
    loopP (fun R p => f102_b3 k R p) n (no, (i : Int), b, l, a, t, acc) = some ((t, acc ++ woF (l.drop i) no), ()) := by
  intro d
  induction d with
  | zero =>
    intro i n acc hi ha hn
    obtain ⟨n, rfl⟩ : ∃ m, n = m + 1 := ⟨n - 1, by omega⟩
    rw [loopP_succ]
    dsimp only [f102_b3]
    rw [cond_no (by omega), List.drop_eq_nil_of_le (by omega)]
    simp [woF]
  | succ d ih =>
    intro i n acc hi ha hn
    obtain ⟨n, rfl⟩ : ∃ m, n = m + 1 := ⟨n - 1, by omega⟩
    rw [loopP_succ]
    have h : i < l.length := by omega
    have ih := fun x => ih (i + 1) n x
    generalize loopP (fun R p => f102_b3 k R p) n = L at *
    dsimp only [f102_b3]
    rw [cond_yes (by omega), chk_decide (by omega), chk_decide (by omega), toNat_cast, at_index h, wsucc (by omega), List.drop_eq_getElem_cons h]
    unfold woF
    rw [List.filter_cons]
    cases hb : (l[i].1 != no) with
    | true =>
      rw [cond_true, if_pos rfl]
      rw [chk_decide (by omega), chk_decide (by omega), chk_decide (by rw [List.length_singleton]; omega), chk_decide (by rw [List.length_singleton]; omega), ih _ (by omega) (by simp; omega) (by omega)]
      simp [woF]
    | false =>
      rw [cond_false]
      rw [ih _ (by omega) (by omega) (by omega)]
      simp [woF]

theorem rwo_ok {k : Nat} {m : Ms} {no : Int} (hl : m.2.length < 1000000) (hk : m.2.length < k) : f102 k (m, no, ()) = some ((m.1, woF m.2 no), ()) := by
  show loopP (fun R p => f102_b3 k R p) k (no, ((0 : Nat) : Int), m.1, m.2, [], m.1, []) = _
  exact rwo_loop k no m.2 m.1 [] m.1 hl m.2.length 0 k [] (by omega) (by simp) hk

/-- groatref16.With -/
theorem insF_cons (v : Vl) (l : List Vl) (no : Int) (text : List UInt8) : insF (v :: l) no text = if v.1 > no then (no, text) :: v :: l else v :: insF l no text := by
  unfold insF idxF
  rw [List.findIdx?_cons]
  by_cases h : v.1 > no
  · simp [h]
  · simp only [h, decide_false, if_false, Bool.false_eq_true]
    cases List.findIdx? (fun v : Vl => decide (v.1 > no)) l with
    | none => rfl
    | some j => rfl

theorem rwith_loop (k : Nat) (no : Int) (text : List UInt8) (l : List Vl) (a t o : List UInt8) (hl : l.length < 1000000) : ∀ (d i n : Nat) (done : Bool) (acc : List Vl), l.length = i + d → acc.length ≤ 2 * i + 1 → d < n →
    loopP (fun R p => f56_b5 k R p) n (no, text, done, (i : Int), a, t, o, l, acc) = some ((t, acc ++ (if done = true then l.drop i else insF (l.drop i) no text)), ()) := by
  intro d
  induction d with
  | zero =>
    intro i n done acc hi ha hn
    obtain ⟨n, rfl⟩ : ∃ m, n = m + 1 := ⟨n - 1, by omega⟩
    rw [loopP_succ]
    dsimp only [f56_b5]
    rw [cond_no (by omega), List.drop_eq_nil_of_le (by omega)]
    cases done with
    | true => simp
    | false =>
      rw [Bool.not_false, cond_true, chk_decide (by rw [List.length_singleton]; omega), chk_decide (by rw [List.length_singleton]; omega)]
      rfl
  | succ d ih =>
    intro i n done acc hi ha hn
    obtain ⟨n, rfl⟩ : ∃ m, n = m + 1 := ⟨n - 1, by omega⟩
    rw [loopP_succ]
    have h : i < l.length := by omega
    have ih := fun x => ih (i + 1) n x
    generalize loopP (fun R p => f56_b5 k R p) n = L at *
    dsimp only [f56_b5]
    rw [cond_yes (by omega), toNat_cast, at_index h, wsucc (by omega), List.drop_eq_getElem_cons h]
    cases done with
    | true =>
      rw [Bool.not_true, cond_false]
      rw [chk_decide (by omega), chk_decide (by omega), chk_decide (by rw [List.length_singleton]; omega), chk_decide (by rw [List.length_singleton]; omega), ih _ _ (by omega) (by simp; omega) (by omega)]
      simp
    | false =>
      rw [Bool.not_false, cond_true, chk_decide (by omega), chk_decide (by omega), insF_cons]
      by_cases hg : l[i].1 > no
      · rw [cond_yes hg, if_pos hg]
        rw [chk_decide (by rw [List.length_singleton]; omega), chk_decide (by rw [List.length_singleton]; omega), chk_decide (by omega), chk_decide (by omega), chk_decide (by rw [List.length_append, List.length_singleton, List.length_singleton]; omega), chk_decide (by rw [List.length_append, List.length_singleton, List.length_singleton]; omega),
          ih _ _ (by omega) (by simp; omega) (by omega)]
        simp
      · rw [cond_no hg, if_neg hg]
        rw [chk_decide (by omega), chk_decide (by omega), chk_decide (by rw [List.length_singleton]; omega), chk_decide (by rw [List.length_singleton]; omega), ih _ _ (by omega) (by simp; omega) (by omega)]
        simp

theorem rwith_ok {k : Nat} {m : Ms} {no : Int} {text : List UInt8} (hl : m.2.length < 1000000) (hk : m.2.length < k) : f56 k (m, no, text, ()) = some ((m.1, insF (woF m.2 no) no text), ()) := by
  have hlo : (woF m.2 no).length ≤ m.2.length := List.length_filter_le _ _
  show f56_m k (f56_l5 k) (m, no, text, ()) = _
  dsimp only [f56_m]
  rw [rwo_ok hl hk, Option.bind_some]
  dsimp only
  have := rwith_loop k no text (woF m.2 no) [] m.1 m.1 (by omega) (woF m.2 no).length 0 k false [] (by omega) (by simp) (by omega)
  exact this

/-- groatref23.find, over the whole list -/
theorem rfind_loop (k : Nat) (e : Int) (l : List Vl) (hl : l.length < 1000000) : ∀ (d i n : Nat), l.length = i + d → d < n → loopP (fun R p => f103_b2 k R p) n (l, (l.length : Int), e, (i : Int)) = some (idxI ((posF (l.drop i) e).map (· + i)), ()) := by
  intro d
  induction d with
  | zero =>
    intro i n hi hn
    obtain ⟨n, rfl⟩ : ∃ m, n = m + 1 := ⟨n - 1, by omega⟩
    rw [loopP_succ]
    dsimp only [f103_b2]
    rw [cond_no (by omega), List.drop_eq_nil_of_le (by omega)]
    rfl
  | succ d ih =>
    intro i n hi hn
    obtain ⟨n, rfl⟩ : ∃ m, n = m + 1 := ⟨n - 1, by omega⟩
    rw [loopP_succ]
    have h : i < l.length := by omega
    have ih := fun x => ih (i + 1) n x
    generalize loopP (fun R p => f103_b2 k R p) n = L at *
    dsimp only [f103_b2]
    rw [cond_yes (by omega), chk_decide (by omega), chk_decide (by omega), toNat_cast, at_index h, wsucc (by omega), ih (by omega) (by omega), List.drop_eq_getElem_cons h]
    simp only [posF, List.findIdx?_cons]
    cases hb : (l[i].1 == e) with
    | true => simp [idxI]
    | false =>
      simp only [cond_false]
      cases (List.findIdx? (fun v : Vl => v.1 == e) (l.drop (i + 1))) with
      | none => rfl
      | some j => simp [idxI]; omega

theorem rfind_ok {k : Nat} {l : List Vl} {e : Int} (hl : l.length < 1000000) (hk : l.length < k) : f103 k (l, (l.length : Int), e, ()) = some (idxI (posF l e), ()) := by
  have := rfind_loop k e l hl l.length 0 k (by omega) hk
  show loopP (fun R p => f103_b2 k R p) k (l, (l.length : Int), e, ((0 : Nat) : Int)) = _
  rw [this]
  simp

/-- The first text of a number. -/
def firstF (l : List Vl) (e : Int) : Option (List UInt8) := (posF l e).map fun j => (l.getD j (0, [])).2
def codeF (l : List Vl) (e : Int) : List UInt8 := match firstF l e with
  | some t => t
  | none => match firstF l 0 with
    | some t => t
    | none => []

theorem firstF_get (l : List Vl) (e : Int) : getF l e = firstF l e := by
  unfold getF firstF posF
  induction l with
  | nil => rfl
  | cons v l ih =>
    rw [List.find?_cons, List.findIdx?_cons]
    cases hb : (v.1 == e) with
    | true => rfl
    | false =>
      rw [ih]
      simp only [Bool.false_eq_true, if_false]
      cases List.findIdx? (fun v : Vl => v.1 == e) l with
      | none => rfl
      | some j => rfl

end Go.Ab
