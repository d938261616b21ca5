/- A loop where it stands, and the plain one. -/
import Derived.Test.YtnifcbofkodjeaaWaAbO
import Derived.KernelRfl
set_option linter.unusedVariables false
namespace Go.Ab

theorem loopAt_eq {α R : Type} {T : Nat → Option TI} {G : Env} {live : Nat → Lp} {k nt : Nat} {kn : Nat → St → Option R} {i : Nat} {c : Code} {K : Kt R} {stf : α → St} {B : (α → Option R) → α → Option R}
    (h : ∀ (kk : St → Option R) (p : α), stepAt T G live k nt kn i c K (stf p) kk = B (fun p' => kk (stf p')) p) : ∀ (n : Nat) (p : α), loopAt T G live k nt kn i c K n (stf p) = loopP B n p := by
  unfold loopAt
  unfold stepAt at h
  cases hf : loopF T G live k nt kn i c K with
  | none =>
    rw [hf] at h
    intro n
    induction n with
    | zero => intro p; rfl
    | succ n ih =>
      intro p
      have : loopP B n = fun p' => (fun _ => none) (stf p') := funext fun p' => (ih p').symm
      show none = B (loopP B n) p
      rw [this]
      exact h (fun _ => none) p
  | some F =>
    rw [hf] at h
    intro n
    induction n with
    | zero => intro p; rfl
    | succ n ih =>
      intro p
      show F (stf p) (loopN n F) = B (loopP B n) p
      have h1 : F (stf p) (loopN n F) = B (fun p' => loopN n F (stf p')) p := h (loopN n F) p
      rw [h1]
      have : loopP B n = fun p' => loopN n F (stf p') := funext fun p' => (ih p').symm
      rw [this]

end Go.Ab
