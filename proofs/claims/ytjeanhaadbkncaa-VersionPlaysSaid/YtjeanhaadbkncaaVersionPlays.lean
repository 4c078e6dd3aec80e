/- 'VersionPlays' is true: for every version and edits the law returns true and changes nothing; no condition. -/
import Derived.Test.YtjeanhaadbkncaaPlays14
import Derived.Test.YtjeanhaadbkncaaOpen
import Derived.Test.YtjeanhaadbkncaaEds
import Derived.Test.YtjeanhaadbkncaaLawEnd
namespace Go.Proofs.Ytjeanhaadbkncaa
open Go.ChangeShapes Go.WideShapes Go.ChangeAt Go.RowKit

set_option maxRecDepth 100000 in
theorem versionPlays_lifted (os : Os) (started : os.Started) (H : Type) (enc : TypeId × Value → H) :
    ReturnsInHanded {} Try.checked os 4 .any (Rows.versionPlaysSpec.pre6 enc Try.prog Try.f4 Rows.versionPlaysRow.domain false) (Rows.versionPlaysSpec.post enc Try.prog Try.f4 false true false false) := by
  refine returnsInHanded_of_change_sized (C := Try.checked) Try.own started (by kernel_rfl) Try.func4
    (ChangeSpec.witness6 (enc := enc) (C := Try.checked) false ⟨#[], #[.agg #[.slice none 0 0, .slice none 0 0, .slice none 0 0, .slice none 0 0], .slice none 0 0], []⟩ 8 (by kernel_rfl) (by kernel_rfl) (by kernel_rfl) (by kernel_rfl)) ?_
  intro W base args ds gs before hval0 hW hcnd hsz0 _
  have hval : ∀ (j : Nat) t v, Try.f4.params[j]? = some t → args[j]? = some v → Value.okWide Try.prog W .any base t v := hval0
  have hsz : (DataW.weightsEach Try.prog (Try.f4.params.toList ++ Rows.versionPlaysSpec.plain.varTypes Try.prog) (ds ++ gs)).all (· ≤ reachBytes) = true := hsz0
  have hW' := hW
  obtain ⟨p, q, hA0, hV, rfl, hfz, hnd⟩ := hW
  have hA : DataW.TrodAll enc Try.prog W 0 (fun _ => true) true Try.f4.params.toList args.toList ds p := hA0
  rw [Try.params4] at hA hval
  obtain ⟨v0, v1, d0, d1, p0, p1, rfl, rfl, rfl, h0, h1⟩ := trodAll_two hA
  obtain ⟨rfl, rfl⟩ := trodVars_none hV
  obtain ⟨ao, L, c, rfl, hat, hwf, hbig⟩ := open_version (hval 0 _ _ rfl rfl) h0
  obtain ⟨a1, len1, cap1, rfl⟩ := okWide_slice Try.underlying27 (hval 1 _ _ rfl rfl)
  obtain ⟨fuel, hf⟩ := h1
  obtain ⟨ea, ec, es, hcs, he, hes⟩ := open_edits hf
  have hcs' : [Value.slice a1 len1 cap1] = [Value.slice ea es.length ec] := hcs
  cases hcs'
  have hlen := hbig fun n hn => by
    have := List.all_eq_true.1 hsz n (DataW.weights_mem_each (j := 0) (t := 26) (d := d0) rfl rfl n hn)
    simpa using this
  refine (plays14_any ao L c _ _ es W hat hwf he hes hlen).mono fun e W' ⟨he, hb⟩ => ?_
  exact ⟨_, he, post_law hW' rfl rfl Try.underlying4 rfl rfl rfl Try.laidOut (by decide +kernel) hb⟩

theorem versionPlays_holds : Rows.VersionPlaysSaid :=
  OpenClaim.holds_of_wide 4 Try.f4 rfl rfl rfl rfl rfl rfl rfl ⟨rfl, rfl, rfl, rfl, rfl⟩ rfl rfl rfl rfl rfl (by kernel_rfl) Try.func4 (by kernel_rfl)
    (of_decide_eq_true (by kernel_rfl)) (by unfold Func.isWrapper; first | (rw [if_pos (by decide +kernel)]; kernel_rfl) | (rw [if_neg (by decide +kernel)]; exact ⟨rfl, rfl⟩))
    (fun os started H enc _ => versionPlays_lifted os started H enc)

#print axioms versionPlays_holds
end Go.Proofs.Ytjeanhaadbkncaa
