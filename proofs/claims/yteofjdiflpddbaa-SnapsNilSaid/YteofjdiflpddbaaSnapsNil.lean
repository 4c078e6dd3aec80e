/- 'SnapsNil' is true: for every call the law returns true and changes nothing; no condition. -/
import Derived.Test.YteofjdiflpddbaaAwake20
import Derived.Test.YteofjdiflpddbaaLawEnd
import Derived.Lib.SmallJoins
namespace Go.Proofs.Yteofjdiflpddbaa
open Go.ChangeShapes Go.WideShapes Go.ChangeAt Go.RowKit

theorem Try.cellsCall : Try.prog.cellsOf 32 = 3 := by kernel_rfl

set_option maxRecDepth 100000 in
theorem snapsNil_lifted (os : Os) (started : os.Started) (H : Type) (enc : TypeId × Value → H) :
    ReturnsInHanded {} Try.checked os 6 .any (Rows.snapsNilSpec.pre6 enc Try.prog Try.f6 Rows.snapsNilRow.domain false) (Rows.snapsNilSpec.post enc Try.prog Try.f6 false true false false) := by
  refine returnsInHanded_of_change (C := Try.checked) Try.own started (by kernel_rfl) Try.func6
    (ChangeSpec.witness6 (enc := enc) (C := Try.checked) false ⟨#[], #[.agg #[.int .i64 0, .int .u64 0, .int .i64 0]], []⟩ 8 (by kernel_rfl) (by kernel_rfl) (by kernel_rfl) (by kernel_rfl)) ?_
  intro W base args ds gs before hval0 hW hcnd _
  have hval : ∀ (j : Nat) t v, Try.f6.params[j]? = some t → args[j]? = some v → Value.okWide Try.prog W .any base t v := hval0
  have hW' := hW
  obtain ⟨p, q, hA0, hV, rfl, hfz, hnd⟩ := hW
  have hA : DataW.TrodAll enc Try.prog W 0 (fun _ => true) true Try.f6.params.toList args.toList ds p := hA0
  rw [Try.params6] at hA hval
  obtain ⟨v0, d0, rfl, rfl, h0⟩ := trodAll_one hA
  obtain ⟨rfl, rfl⟩ := trodVars_none hV
  obtain ⟨x0, x1, x2, y0, y1, y2, n, rfl, _, _, t0, t1, t2⟩ := Joins.open_agg3 Try.underlying32 (by kernel_rfl) Try.cellsCall (hval 0 _ _ rfl rfl) h0
  obtain ⟨k, e0, _⟩ := DataW.trod_int Try.underlying3 t0
  obtain ⟨s, e1, _⟩ := DataW.trod_int Try.underlying30 t1
  obtain ⟨i, e2, _⟩ := DataW.trod_int Try.underlying3 t2
  cases e0; cases e1; cases e2
  refine (snapsNil_any k s i W).mono fun e W' ⟨he, hb⟩ => ?_
  exact ⟨_, he, post_law hW' rfl rfl Try.underlying4 rfl rfl rfl Try.laidOut (by decide +kernel) hb⟩

theorem snapsNil_holds : Rows.SnapsNilSaid :=
  OpenClaim.holds_of_wide 6 Try.f6 rfl rfl rfl rfl rfl rfl rfl ⟨rfl, rfl, rfl, rfl, rfl⟩ rfl rfl rfl rfl rfl (by kernel_rfl) Try.func6 (by kernel_rfl)
    (of_decide_eq_true (by kernel_rfl)) (by unfold Func.isWrapper; first | (rw [if_pos (by decide +kernel)]; kernel_rfl) | (rw [if_neg (by decide +kernel)]; exact ⟨rfl, rfl⟩))
    (fun os started H enc _ => snapsNil_lifted os started H enc)

#print axioms snapsNil_holds
end Go.Proofs.Yteofjdiflpddbaa
