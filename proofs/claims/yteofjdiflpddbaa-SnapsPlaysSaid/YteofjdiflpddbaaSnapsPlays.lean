/- 'SnapsPlays' is true: for every script the law returns true and changes nothing; no condition. -/
import Derived.Test.YteofjdiflpddbaaPlays20
import Derived.Test.YteofjdiflpddbaaOpen20
import Derived.Test.YteofjdiflpddbaaLawEnd
namespace Go.Proofs.Yteofjdiflpddbaa
open Go.ChangeShapes Go.WideShapes Go.ChangeAt Go.RowKit

set_option maxRecDepth 100000 in
theorem snapsPlays_lifted (os : Os) (started : os.Started) (H : Type) (enc : TypeId × Value → H) :
    ReturnsInHanded {} Try.checked os 4 .any (Rows.snapsPlaysSpec.pre6 enc Try.prog Try.f4 Rows.snapsPlaysRow.domain false) (Rows.snapsPlaysSpec.post enc Try.prog Try.f4 false true false false) := by
  refine returnsInHanded_of_change_sized (C := Try.checked) Try.own started (by kernel_rfl) Try.func4
    (ChangeSpec.witness6 (enc := enc) (C := Try.checked) false ⟨#[], #[.slice none 0 0], []⟩ 8 (by kernel_rfl) (by kernel_rfl) (by kernel_rfl) (by kernel_rfl)) ?_
  intro W base args ds gs before hval0 hW hcnd hsz0 _
  have hval : ∀ (j : Nat) t v, Try.f4.params[j]? = some t → args[j]? = some v → Value.okWide Try.prog W .any base t v := hval0
  have hsz : (DataW.weightsEach Try.prog (Try.f4.params.toList ++ Rows.snapsPlaysSpec.plain.varTypes Try.prog) (ds ++ gs)).all (· ≤ reachBytes) = true := hsz0
  have hW' := hW
  obtain ⟨p, q, hA0, hV, rfl, hfz, hnd⟩ := hW
  have hA : DataW.TrodAll enc Try.prog W 0 (fun _ => true) true Try.f4.params.toList args.toList ds p := hA0
  rw [Try.params4] at hA hval
  obtain ⟨v0, d0, rfl, rfl, h0⟩ := trodAll_one hA
  obtain ⟨rfl, rfl⟩ := trodVars_none hV
  obtain ⟨a1, len1, cap1, rfl⟩ := okWide_slice Try.underlying23 (hval 0 _ _ rfl rfl)
  obtain ⟨fuel, hf⟩ := h0
  obtain ⟨ao, c, cs, hcs, hat, hwf, hs⟩ := open_calls hf
  have hcs' : [Value.slice a1 len1 cap1] = [Value.slice ao cs.length c] := hcs
  cases hcs'
  have hlen : cs.length ≤ 140737488351232 := by
    by_cases hl : cs = []
    · subst hl; simp
    · obtain ⟨el, sp, hx1, hel⟩ := hs hl
      have hb : Try.prog.bytesOf 32 = 24 := by kernel_rfl
      have := List.all_eq_true.1 hsz ((el.length + sp.length) * 24) (DataW.weights_mem_each (j := 0) (t := 23) (d := d0) rfl rfl _ (by
        rw [show d0 = .slice el sp from hx1]
        simp [DataW.weights, Try.underlying23, hb]))
      have hr := reachBytes_lt
      simp at this
      omega
  refine (plays20_any _ _ cs W hat hwf hlen).mono fun e W' ⟨he, hb⟩ => ?_
  exact ⟨_, he, post_law hW' rfl rfl Try.underlying4 rfl rfl rfl Try.laidOut (by decide +kernel) hb⟩

theorem snapsPlays_holds : Rows.SnapsPlaysSaid :=
  OpenClaim.holds_of_wide 4 Try.f4 rfl rfl rfl rfl rfl rfl rfl ⟨rfl, rfl, rfl, rfl, rfl⟩ rfl rfl rfl rfl rfl (by kernel_rfl) Try.func4 (by kernel_rfl)
    (of_decide_eq_true (by kernel_rfl)) (by unfold Func.isWrapper; first | (rw [if_pos (by decide +kernel)]; kernel_rfl) | (rw [if_neg (by decide +kernel)]; exact ⟨rfl, rfl⟩))
    (fun os started H enc _ => snapsPlays_lifted os started H enc)

#print axioms snapsPlays_holds
end Go.Proofs.Yteofjdiflpddbaa
