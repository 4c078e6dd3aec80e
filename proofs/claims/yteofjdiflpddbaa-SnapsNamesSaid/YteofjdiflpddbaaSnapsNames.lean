/- 'SnapsNames' is true: the law returns true; no condition. -/
import Derived.Test.YteofjdiflpddbaaAwake20
import Derived.Test.YteofjdiflpddbaaLawEnd
namespace Go.Proofs.Yteofjdiflpddbaa
open Go.ChangeShapes Go.WideShapes Go.ChangeAt Go.RowKit

set_option maxRecDepth 100000 in
theorem snapsNames_lifted (os : Os) (started : os.Started) (H : Type) (enc : TypeId × Value → H) :
    ReturnsInHanded {} Try.checked os 3 .any (Rows.snapsNamesSpec.pre6 enc Try.prog Try.f3 Rows.snapsNamesRow.domain false) (Rows.snapsNamesSpec.post enc Try.prog Try.f3 false true false false) := by
  refine returnsInHanded_of_change (C := Try.checked) Try.own started (by kernel_rfl) Try.func3
    (ChangeSpec.witness6 (enc := enc) (C := Try.checked) false ⟨#[], #[], []⟩ 8 (by kernel_rfl) (by kernel_rfl) (by kernel_rfl) (by kernel_rfl)) ?_
  intro W base args ds gs before hval0 hW hcnd _
  have hW' := hW
  obtain ⟨p, q, hA0, hV, rfl, hfz, hnd⟩ := hW
  have hA : DataW.TrodAll enc Try.prog W 0 (fun _ => true) true Try.f3.params.toList args.toList ds p := hA0
  rw [Try.params3] at hA
  obtain ⟨rfl, rfl, rfl⟩ := trodAll_none hA
  obtain ⟨rfl, rfl⟩ := trodVars_none hV
  refine (snapsNames_any W).mono fun e W' ⟨he, hb⟩ => ?_
  exact ⟨_, he, post_law hW' rfl rfl Try.underlying4 rfl rfl rfl Try.laidOut (by decide +kernel) hb⟩

theorem snapsNames_holds : Rows.SnapsNamesSaid :=
  OpenClaim.holds_of_wide 3 Try.f3 rfl rfl rfl rfl rfl rfl rfl ⟨rfl, rfl, rfl, rfl, rfl⟩ rfl rfl rfl rfl rfl (by kernel_rfl) Try.func3 (by kernel_rfl)
    (of_decide_eq_true (by kernel_rfl)) (by unfold Func.isWrapper; first | (rw [if_pos (by decide +kernel)]; kernel_rfl) | (rw [if_neg (by decide +kernel)]; exact ⟨rfl, rfl⟩))
    (fun os started H enc _ => snapsNames_lifted os started H enc)

#print axioms snapsNames_holds
end Go.Proofs.Yteofjdiflpddbaa
