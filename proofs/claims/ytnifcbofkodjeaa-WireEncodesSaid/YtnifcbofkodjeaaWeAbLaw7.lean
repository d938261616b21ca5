import Derived.Test.YtnifcbofkodjeaaRows
import Derived.Test.YtnifcbofkodjeaaWeAbWc
import Derived.Test.YtnifcbofkodjeaaWeAbS
import Derived.WalkKit
import Derived.ProofKit
import Derived.OpenShut
import Derived.SizedLaws
namespace Go.Proofs.Ytnifcbofkodjeaa.wireEncodes
open Go.ChangeShapes Go.WideShapes Go.ChangeAt Go.RowKit Go.Ab
set_option linter.unusedVariables false
theorem own : ownKnob Try.prog.godebug = none := by kernel_rfl
set_option maxRecDepth 100000 in
theorem lifted (os : Os) (started : os.Started) (H : Type) (enc : TypeId × Value → H) :
    ReturnsInHanded {} Try.checked os 7 .any (Rows.wireEncodesSpec.pre6 enc Try.prog Try.f7 Rows.wireEncodesRow.domain false) (Rows.wireEncodesSpec.post enc Try.prog Try.f7 false true false false) := by
  refine returnsInHanded_of_change_sized (C := Try.checked) own started (by kernel_rfl) Try.func7
    (ChangeSpec.witness6 (enc := enc) (C := Try.checked) false ⟨#[], #[.agg #[.int .i64 0, .int .i64 0, .slice none 0 0], .agg #[.string ByteArray.empty, .slice none 0 0]], []⟩ 8 (by kernel_rfl) (by kernel_rfl) (by kernel_rfl) (by kernel_rfl)) ?_
  intro W base args ds gs before hval0 hW hcnd hsz0 _
  have hval : ∀ (j : Nat) t v, Try.f7.params[j]? = some t → args[j]? = some v → Value.okWide Try.prog W .any base t v := hval0
  have hW' := hW
  obtain ⟨p, q, hA0, hV, rfl, hfz, hnd⟩ := hW
  have hA : DataW.TrodAll enc Try.prog W 0 (fun _ => true) true Try.f7.params.toList args.toList ds p := hA0
  obtain ⟨rfl, rfl⟩ := trodVars_none hV
  have hop := open_all types_all (n := 10) (show fitAll types 10 Try.f7.params.toList law7 = true by kernel_rfl) (fun j t v ht hv => hval j t v (by rw [← Array.getElem?_toList]; exact ht) (by rw [← Array.getElem?_toList]; exact hv)) hA
  have hrun := law_run f7_c pure7 hop
  obtain ⟨d0, d1, rfl⟩ := list2 (show ds.length = 2 from (len_all hA).trans (by kernel_rfl))
  refine hrun.mono fun e W' ⟨he, bel⟩ => ?_
  subst he
  exact ⟨_, rfl, _, _, _, [], _, [], hW', trodAll_mk1 (shut_bool Try.underlying4 _), keep_all (by kernel_rfl) (by kernel_rfl) hA bel (fun x hx => by simpa using hW'.lt x (by simpa using hx)), rfl, bel.frame _, fun h => by cases h⟩
theorem over : Rows.wireEncodesRow.holds Try.pinned (OpenSpec.ofChange Rows.wireEncodesSpec) :=
  OpenClaim.holds_of_wide 7 Try.f7 rfl rfl rfl rfl rfl rfl rfl ⟨rfl, rfl, rfl, rfl, rfl⟩ rfl rfl rfl rfl rfl (by kernel_rfl) Try.func7 (by kernel_rfl)
    (of_decide_eq_true (by kernel_rfl)) (by unfold Func.isWrapper; first | (rw [if_pos (by decide +kernel)]; kernel_rfl) | (rw [if_neg (by decide +kernel)]; exact ⟨rfl, rfl⟩))
    (fun os started H enc _ => lifted os started H enc)
theorem proved : Rows.WireEncodesSaid := over
end Go.Proofs.Ytnifcbofkodjeaa.wireEncodes
namespace Go.Proofs.Ytnifcbofkodjeaa
theorem wireEncodes_holds : Rows.WireEncodesSaid := wireEncodes.proved
end Go.Proofs.Ytnifcbofkodjeaa
