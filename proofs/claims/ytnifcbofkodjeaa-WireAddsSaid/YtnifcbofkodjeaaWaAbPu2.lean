import Derived.Test.YtnifcbofkodjeaaWaAbPu1
set_option linter.unusedVariables false
set_option linter.unusedSimpArgs false
namespace Go.Ab

/-- slices.IndexFunc, by msg.With's closure -/
def idxI (o : Option Nat) : Int := match o with | some j => (j : Int) | none => -1
theorem idx_loop' (k : Nat) (no : Int) (l : List Vl) (hl : l.length < 5864062014700) : ∀ (d i n : Nat), l.length = i + d → d < n → loopP (fun R p => f76_b2 k R p) n (l, no, (l.length : Int), (i : Int)) = some (idxI ((idxF (l.drop i) no).map (· + i)), ()) := by
  intro d
  induction d with
  | zero =>
    intro i n hi hn
    obtain ⟨n, rfl⟩ : ∃ m, n = m + 1 := ⟨n - 1, by omega⟩
    rw [loopP_succ]
    simp only [f76_b2]
    rw [cond_no (by omega), List.drop_eq_nil_of_le (by omega)]
    rfl
  | succ d ih =>
    intro i n hi hn
    obtain ⟨n, rfl⟩ : ∃ m, n = m + 1 := ⟨n - 1, by omega⟩
    rw [loopP_succ]
    have h : i < l.length := by omega
    have ih := fun x => ih (i + 1) n x
    generalize loopP (fun R p => f76_b2 k R p) n = L at *
    simp only [f76_b2]
    rw [cond_yes (by omega), chk_decide (by omega), chk_decide (by omega), toNat_cast, at_index h, f77_ok, wsucc (by omega), ih (by omega) (by omega), List.drop_eq_getElem_cons h]
    simp only [Option.bind_some, idxF, List.findIdx?_cons]
    by_cases hg : l[i].1 > no
    · simp [hg, idxI]
    · simp only [hg, decide_false, cond_false]
      cases (List.findIdx? (fun v => decide (v.1 > no)) (l.drop (i + 1))) with
      | none => rfl
      | some j => simp [idxI]; omega

theorem idx_ok {k : Nat} {l : List Vl} {no : Int} (hl : l.length < 5864062014700) (hk : l.length < k) : f76 k (l, no, ()) = some (idxI (idxF l no), ()) := by
  have := idx_loop' k no l hl l.length 0 k (by omega) hk
  show loopP (fun R p => f76_b2 k R p) k (l, no, (l.length : Int), ((0 : Nat) : Int)) = _
  rw [this]
  simp

theorem idx_lt {l : List Vl} {no : Int} {j : Nat} (h : idxF l no = some j) : j < l.length := by
  unfold idxF at h
  exact (List.findIdx?_eq_some_iff_findIdx_eq.1 h).1

def insF (l : List Vl) (no : Int) (text : List UInt8) : List Vl := match idxF l no with
  | some j => l.take j ++ (no, text) :: l.drop j
  | none => l ++ [(no, text)]

theorem laid_len {α : Type} (lo n : Nat) (xs ys : List α) (h : lo + n ≤ xs.length) (h' : n ≤ ys.length) : (laid lo n xs ys).length = xs.length := by
  unfold laid
  simp only [List.length_append, List.length_take, List.length_drop]
  omega

theorem ins_laid (l : List Vl) (v d : Vl) (j : Nat) (hj : j ≤ l.length) :
    laid (j + 1) (l.length - j) ((laid 0 j (List.replicate (l.length + 1) d) (l.take j)).set j v) (l.drop j) = l.take j ++ v :: l.drop j := by
  have e : laid 0 j (List.replicate (l.length + 1) d) (l.take j) = l.take j ++ d :: List.replicate (l.length - j) d := by
    unfold laid
    rw [List.take_zero, List.nil_append, List.take_take, Nat.min_self, Nat.zero_add, List.drop_replicate, show l.length + 1 - j = (l.length - j) + 1 by omega]
    rfl
  have hlj : (l.take j).length = j := by rw [List.length_take]; omega
  rw [e]
  have e2 : (l.take j ++ d :: List.replicate (l.length - j) d).set j v = l.take j ++ v :: List.replicate (l.length - j) d := by
    rw [List.set_append_right _ _ (by omega), hlj, Nat.sub_self]
    rfl
  rw [e2]
  unfold laid
  have e3 : (l.take j ++ v :: List.replicate (l.length - j) d).take (j + 1) = l.take j ++ [v] := by
    rw [List.take_append, List.take_of_length_le (by omega), hlj, show j + 1 - j = 1 by omega]
    rfl
  have e4 : (l.take j ++ v :: List.replicate (l.length - j) d).drop (j + 1 + (l.length - j)) = [] := by
    apply List.drop_eq_nil_of_le
    simp [hlj]
    omega
  rw [e3, e4, List.append_nil, List.take_of_length_le (l := l.drop j) (by rw [List.length_drop]; omega), List.append_assoc]
  rfl

theorem with_ok {k : Nat} {m : Ms} {no : Int} {text : List UInt8} (hl : m.2.length < 5864062014700) (hk : m.2.length < k) : f39 k (m, no, text, ()) = some ((m.1, insF (woF m.2 no) no text), ()) := by
  have hlo : (woF m.2 no).length ≤ m.2.length := List.length_filter_le _ _
  show f39_m k (m, no, text, ()) = _
  simp only [f39_m]
  rw [wo_ok hl hk]
  rw [Option.bind_some]
  dsimp only
  rw [idx_ok (by omega) (by omega)]
  generalize woF m.2 no = l at *
  generalize hz : idxI (idxF l no) = z
  rw [Option.bind_some]
  dsimp only
  have hw : IntKind.i64.wrap ((l.length : Int) + 1) = ((l.length + 1 : Nat) : Int) := wsucc (by omega)
  unfold insF
  cases hi : idxF l no with
  | none =>
    rw [hi] at hz
    have hz : z = -1 := hz.symm
    subst hz
    rw [cond_yes (by omega)]
    have hj := ins_laid l (no, text) ((0 : Int), ([] : List UInt8)) l.length (Nat.le_refl _)
    simp only [hw, toNat_cast, List.drop_zero, List.length_take, List.length_replicate, Nat.min_self, List.take_length, List.length_drop, List.length_set]
    have hm : min l.length (l.length + 1) = l.length := by omega
    rw [List.take_length] at hj
    have hl0 : (laid 0 l.length (List.replicate (l.length + 1) ((0 : Int), ([] : List UInt8))) l).length = l.length + 1 := by
      rw [laid_len _ _ _ _ (by simp) (by omega)]
      simp
    simp only [hm, hl0]
    repeat rw [chk_decide (by omega)]
    rw [show min (l.length - l.length) (l.length + 1 - (l.length + 1)) = l.length - l.length by omega, hj, List.drop_length]
  | some j =>
    have hjl := idx_lt hi
    rw [hi] at hz
    have hz : z = (j : Int) := hz.symm
    subst hz
    rw [cond_no (by omega)]
    have hj := ins_laid l (no, text) ((0 : Int), ([] : List UInt8)) j (by omega)
    have hw2 : IntKind.i64.wrap ((j : Int) + 1) = ((j + 1 : Nat) : Int) := wsucc (by omega)
    simp only [hw, hw2, toNat_cast, List.drop_zero, List.length_take, List.length_replicate, List.length_drop, List.length_set, List.take_length]
    have hm : min (min j l.length) (l.length + 1) = j := by omega
    have hl0 : (laid 0 j (List.replicate (l.length + 1) ((0 : Int), ([] : List UInt8))) (l.take j)).length = l.length + 1 := by
      rw [laid_len _ _ _ _ (by simp; omega) (by simp; omega)]
      simp
    simp only [hm, hl0]
    repeat rw [chk_decide (by omega)]
    rw [show min (l.length - j) (l.length + 1 - (j + 1)) = l.length - j by omega, hj]

end Go.Ab
