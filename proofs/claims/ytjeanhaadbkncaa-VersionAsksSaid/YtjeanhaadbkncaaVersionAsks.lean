/- 'VersionAsks' is true: for every version, level and users the law returns true and changes nothing; no condition. -/
import Derived.Test.YtjeanhaadbkncaaAsks14
import Derived.Test.YtjeanhaadbkncaaOpen
import Derived.Test.YtjeanhaadbkncaaLawEnd
namespace Go.Proofs.Ytjeanhaadbkncaa
open Go.ChangeShapes Go.WideShapes Go.ChangeAt Go.RowKit

set_option maxRecDepth 100000 in
theorem versionAsks_lifted (os : Os) (started : os.Started) (H : Type) (enc : TypeId × Value → H) :
    ReturnsInHanded {} Try.checked os 8 .any (Rows.versionAsksSpec.pre6 enc Try.prog Try.f8 Rows.versionAsksRow.domain false) (Rows.versionAsksSpec.post enc Try.prog Try.f8 false true false false) := by
  refine returnsInHanded_of_change_sized (C := Try.checked) Try.own started (by kernel_rfl) Try.func8
    (ChangeSpec.witness6 (enc := enc) (C := Try.checked) false ⟨#[], #[.agg #[.slice none 0 0, .slice none 0 0, .slice none 0 0, .slice none 0 0], .int .i64 0, .string ⟨#[]⟩, .string ⟨#[]⟩], []⟩ 8 (by kernel_rfl) (by kernel_rfl) (by kernel_rfl) (by kernel_rfl)) ?_
  intro W base args ds gs before hval0 hW hcnd hsz0 _
  have hval : ∀ (j : Nat) t v, Try.f8.params[j]? = some t → args[j]? = some v → Value.okWide Try.prog W .any base t v := hval0
  have hsz : (DataW.weightsEach Try.prog (Try.f8.params.toList ++ Rows.versionAsksSpec.plain.varTypes Try.prog) (ds ++ gs)).all (· ≤ reachBytes) = true := hsz0
  have hW' := hW
  obtain ⟨p, q, hA0, hV, rfl, hfz, hnd⟩ := hW
  have hA : DataW.TrodAll enc Try.prog W 0 (fun _ => true) true Try.f8.params.toList args.toList ds p := hA0
  rw [Try.params8] at hA hval
  obtain ⟨v0, v1, v2, v3, d0, d1, d2, d3, p0, p1, p2, p3, rfl, rfl, rfl, h0, h1, h2, h3⟩ := trodAll_four hA
  obtain ⟨rfl, rfl⟩ := trodVars_none hV
  obtain ⟨ao, L, c, rfl, hat, _, hbig⟩ := open_version (hval 0 _ _ rfl rfl) h0
  obtain ⟨lv, rfl, rfl, rfl, _⟩ := open_int Try.underlying3 (hval 1 _ _ rfl rfl) h1
  obtain ⟨fr, rfl⟩ := okWide_string Try.underlying9 (hval 2 _ _ rfl rfl)
  obtain ⟨tu, rfl⟩ := okWide_string Try.underlying9 (hval 3 _ _ rfl rfl)
  have hlen := hbig fun n hn => by
    have := List.all_eq_true.1 hsz n (DataW.weights_mem_each (j := 0) (t := 26) (d := d0) rfl rfl n hn)
    simpa using this
  refine (asks14_any ao L c lv fr tu W hat hlen).mono fun e W' ⟨he, hb⟩ => ?_
  exact ⟨_, he, post_law hW' rfl rfl Try.underlying4 rfl rfl rfl Try.laidOut (by decide +kernel) hb⟩

theorem versionAsks_holds : Rows.VersionAsksSaid :=
  OpenClaim.holds_of_wide 8 Try.f8 rfl rfl rfl rfl rfl rfl rfl ⟨rfl, rfl, rfl, rfl, rfl⟩ rfl rfl rfl rfl rfl (by kernel_rfl) Try.func8 (by kernel_rfl)
    (of_decide_eq_true (by kernel_rfl)) (by unfold Func.isWrapper; first | (rw [if_pos (by decide +kernel)]; kernel_rfl) | (rw [if_neg (by decide +kernel)]; exact ⟨rfl, rfl⟩))
    (fun os started H enc _ => versionAsks_lifted os started H enc)

#print axioms versionAsks_holds
end Go.Proofs.Ytjeanhaadbkncaa
