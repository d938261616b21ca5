/- Plain laws: what the printed functions are made of. -/
import Derived.Test.YtnifcbofkodjeaaWaAbP
set_option linter.unusedVariables false
namespace Go.Ab

theorem loopP_succ {α R : Type} (B : (α → Option R) → α → Option R) (n : Nat) (p : α) : loopP B (n + 1) p = B (loopP B n) p := rfl
theorem cond_decide {α : Type} (p : Prop) [Decidable p] (a b : α) : cond (decide p) a b = if p then a else b := by
  by_cases h : p <;> simp [h]
theorem chk_decide {R : Type} {p : Prop} [Decidable p] (h : p) (y : Option R) : chk (decide p) y = y := by
  rw [decide_eq_true h]; rfl
theorem cond_yes {α : Type} {p : Prop} [Decidable p] (h : p) (a b : α) : cond (decide p) a b = a := by rw [decide_eq_true h]; rfl
theorem cond_no {α : Type} {p : Prop} [Decidable p] (h : ¬ p) (a b : α) : cond (decide p) a b = b := by rw [decide_eq_false h]; rfl
theorem w64 {n : Int} (h : -9223372036854775808 ≤ n) (h' : n ≤ 9223372036854775807) : IntKind.i64.wrap n = n := by
  rw [IntKind.wrap_i64]; omega
theorem toNat_cast (n : Nat) : Int.toNat ((n : Nat) : Int) = n := by omega
theorem wsucc {n : Nat} (h : n < 9223372036854775807) : IntKind.i64.wrap (((n : Nat) : Int) + 1) = ((n + 1 : Nat) : Int) := by
  rw [w64 (by omega) (by omega)]; omega

/-- A round at an index: the index is one. -/
theorem at_index {α : Type} {xs : List α} {i : Nat} (h : i < xs.length) (d : α) : xs.getD i d = xs[i] := by
  rw [List.getD_eq_getElem?_getD, List.getElem?_eq_getElem h]; rfl

end Go.Ab
