/- Plain law: a file dropped, and the files but one number, are the same where numbers are distinct. -/
import Derived.Test.YtjeanhaadbkncaaApplyS
namespace Go.Proofs.Ytjeanhaadbkncaa
open Go.RowKit

theorem without_none {xs : List Fl} {num : Int} (h : dropI xs num = none) : withoutS xs num = xs := by
  unfold dropI at h
  rw [List.findIdx?_eq_none_iff] at h
  unfold withoutS
  rw [List.filter_eq_self]
  intro x hx
  have := h x hx
  simp at this
  simpa using this
theorem without_some : ∀ {xs : List Fl} {num : Int} {i : Nat}, (xs.map (·.nu)).Nodup → dropI xs num = some i → withoutS xs num = xs.take i ++ xs.drop (i + 1)
  | [], num, i, _, h => by simp [dropI] at h
  | x :: xs, num, i, hn, h => by
    rw [List.map_cons, List.nodup_cons] at hn
    unfold dropI at h
    rw [List.findIdx?_cons] at h
    by_cases hx : x.nu = num
    · rw [if_pos (by simpa using hx)] at h
      cases h
      have : withoutS xs num = xs := by
        unfold withoutS
        rw [List.filter_eq_self]
        intro y hy
        have : y.nu ≠ num := fun e => hn.1 (by rw [hx, ← e]; exact List.mem_map_of_mem hy)
        simpa using this
      simp only [withoutS] at this
      simp [withoutS, hx, this]
    · rw [if_neg (by simpa using hx)] at h
      cases hq : xs.findIdx? (fun f => f.nu == num) with
      | none => rw [hq] at h; cases h
      | some j =>
        rw [hq] at h
        cases h
        have ih := without_some (xs := xs) (num := num) (i := j) hn.2 hq
        simp only [withoutS] at ih
        simp [withoutS, hx, ih]
theorem without_len {xs : List Fl} {num : Int} (hn : (xs.map (·.nu)).Nodup) : decide ((withoutS xs num).length < xs.length) = (dropI xs num).isSome := by
  cases h : dropI xs num with
  | none => rw [without_none h]; simp
  | some i =>
    have hi : i < xs.length := (List.findIdx?_eq_some_iff_getElem.1 h).1
    rw [without_some hn h]
    simp
    omega

/-- The numbers of each level are distinct. -/
def NodV (L : Nat → List Fl) : Prop := ∀ k, k < 4 → ((L k).map (·.nu)).Nodup

end Go.Proofs.Ytjeanhaadbkncaa
