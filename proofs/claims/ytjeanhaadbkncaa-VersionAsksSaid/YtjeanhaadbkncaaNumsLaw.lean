/- Plain law: numbers sorted, and numbers each laid in its place, are the same. -/
import Derived.Test.YtjeanhaadbkncaaRefNums
import Derived.Test.YtjeanhaadbkncaaSortOwn
namespace Go.Proofs.Ytjeanhaadbkncaa

theorem posN_sorted {xs : List Int} {x : Int} (h : xs.Pairwise (· ≤ ·)) : (∀ y ∈ xs.take (posN xs x), y ≤ x) ∧ ∀ y ∈ xs.drop (posN xs x), x < y := by
  constructor
  · intro y hy
    obtain ⟨i, hi, rfl⟩ := List.mem_take_iff_getElem.1 hy
    have := posN_before (xs := xs) (x := x) (n := i) (by omega) (List.getElem?_eq_getElem (by omega))
    omega
  · intro y hy
    obtain ⟨i, hi, rfl⟩ := List.mem_drop_iff_getElem.1 hy
    have h0 : posN xs x < xs.length := by omega
    have h1 := posN_at (xs := xs) (x := x) (List.getElem?_eq_getElem h0)
    rcases Nat.eq_or_lt_of_le (Nat.le_add_left (posN xs x) i) with e | e
    · have : i = 0 := by omega
      subst this
      simpa using h1
    · have := List.pairwise_iff_getElem.1 h (posN xs x) (posN xs x + i) h0 (by omega) (by omega)
      omega
theorem insN_sorted {xs : List Int} {x : Int} (h : xs.Pairwise (· ≤ ·)) : (insN xs x).Pairwise (· ≤ ·) := by
  obtain ⟨h1, h2⟩ := posN_sorted (x := x) h
  have hs : (xs.take (posN xs x) ++ xs.drop (posN xs x)).Pairwise (· ≤ ·) := by rw [List.take_append_drop]; exact h
  rw [List.pairwise_append] at hs
  unfold insN
  rw [List.pairwise_append, List.pairwise_cons]
  refine ⟨hs.1, ⟨fun y hy => by have := h2 y hy; omega, hs.2.1⟩, fun a ha b hb => ?_⟩
  rcases List.mem_cons.1 hb with rfl | hb
  · exact h1 a ha
  · exact hs.2.2 a ha b hb
theorem insN_perm (xs : List Int) (x : Int) : (insN xs x).Perm (x :: xs) := by
  unfold insN
  refine List.perm_middle.trans ?_
  rw [List.take_append_drop]
theorem laidN_both (zs : List Int) : (laidN zs).Pairwise (· ≤ ·) ∧ (laidN zs).Perm zs := by
  have : ∀ (zs acc : List Int), acc.Pairwise (· ≤ ·) → (zs.foldl insN acc).Pairwise (· ≤ ·) ∧ (zs.foldl insN acc).Perm (acc ++ zs) := by
    intro zs
    induction zs with
    | nil => intro acc h; exact ⟨h, by simp⟩
    | cons z zs ih =>
      intro acc h
      obtain ⟨h1, h2⟩ := ih (insN acc z) (insN_sorted h)
      refine ⟨h1, h2.trans ?_⟩
      exact ((insN_perm acc z).append_right zs).trans (by simpa using List.perm_middle.symm)
  simpa [laidN] using this zs [] List.Pairwise.nil
theorem risen_laid (zs : List Int) : risen zs = laidN zs := by
  obtain ⟨h1, h2⟩ := laidN_both zs
  have s : (risen zs).Pairwise (fun a b => decide (a ≤ b) = true) := List.pairwise_mergeSort (fun a b c h h' => by simp at *; omega) (fun a b => by simp; omega) zs
  refine List.Perm.eq_of_pairwise (le := (· ≤ ·)) (fun a b _ _ h h' => by omega) (s.imp (fun h => by simpa using h)) h1 ?_
  exact (List.mergeSort_perm zs _).trans h2.symm

end Go.Proofs.Ytjeanhaadbkncaa
