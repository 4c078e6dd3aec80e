/- Plain law: where files may be together, the numbers of a level are distinct. -/
import Derived.Test.YtjeanhaadbkncaaDelLaw
namespace Go.Proofs.Ytjeanhaadbkncaa
open Go.RowKit

theorem checkS_zero {L : Nat → List Fl} (h : checkS L = 0) : OkV L := by
  unfold checkS at h
  split at h
  · assumption
  · cases h
theorem okV_nod {L : Nat → List Fl} (h : OkV L) : NodV L := by
  intro k hk
  rw [List.nodup_iff_pairwise_ne, List.pairwise_iff_getElem]
  intro i j hi hj hij
  rw [List.getElem_map, List.getElem_map]
  intro e
  have hj' : j < (L k).length := by simpa using hj
  have hi' : i < (L k).length := by simpa using hi
  have := h k hk j _ (List.getElem?_eq_getElem hj')
  unfold okAt at this
  simp only [Bool.and_eq_true] at this
  have hs := this.1.1.2
  have hmem : (seenS L k j).contains (L k)[j].nu = true := by
    rw [List.contains_iff_mem]
    unfold seenS
    refine List.mem_append_right _ ?_
    rw [← e]
    exact List.mem_map_of_mem (List.mem_take_iff_getElem.2 ⟨i, by omega, rfl⟩)
  rw [hmem] at hs
  cases hs
theorem nod_del {L : Nat → List Fl} (h : NodV L) (k : Nat) (num : Int) : NodV (updG L k (withoutS (L k) num)) := by
  intro i hi
  by_cases e : i = k
  · subst e
    rw [updG_same]
    exact List.Nodup.sublist (List.Sublist.map _ List.filter_sublist) (h i hi)
  · rw [updG_other _ _ e]
    exact h i hi

end Go.Proofs.Ytjeanhaadbkncaa
