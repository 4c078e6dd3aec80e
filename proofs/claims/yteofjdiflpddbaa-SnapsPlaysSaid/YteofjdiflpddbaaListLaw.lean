/- Plain law: the numbers that are told rise, each once, and are those that are held; the least above those that were told is the next. -/
import Derived.Test.YteofjdiflpddbaaSnapList
namespace Go.Proofs.Yteofjdiflpddbaa
open Go.Proofs Go.RowKit

theorem compactUpTo_spec {d : Array Int} (hs : ∀ i j, i ≤ j → j < d.size → d[i]! ≤ d[j]!) : ∀ m, m ≤ d.size → (Lib.compactUpTo d m).Pairwise (· < ·) ∧ ∀ x, x ∈ Lib.compactUpTo d m ↔ ∃ j, j < m ∧ d[j]! = x
  | 0, _ => by
    unfold Lib.compactUpTo
    simp
  | m + 1, hm => by
    obtain ⟨h1, h2⟩ := compactUpTo_spec hs m (by omega)
    rw [Lib.compactUpTo_succ]
    by_cases h0 : m = 0
    · subst h0
      rw [Lib.keeps_lt_one d 0 (by omega), if_pos rfl]
      refine ⟨by simp [Lib.compactUpTo], fun x => ?_⟩
      rw [List.mem_append, h2 x]
      constructor
      · rintro (⟨j, hj, _⟩ | h)
        · omega
        · exact ⟨0, by omega, by simpa using (List.mem_singleton.1 h).symm⟩
      · rintro ⟨j, hj, rfl⟩
        obtain rfl : j = 0 := by omega
        exact .inr (by simp)
    · by_cases he : d[m]! = d[m - 1]!
      · rw [Lib.keeps_neg (by omega) he, if_neg (by simp), List.append_nil]
        refine ⟨h1, fun x => ?_⟩
        rw [h2 x]
        constructor
        · rintro ⟨j, hj, rfl⟩; exact ⟨j, by omega, rfl⟩
        · rintro ⟨j, hj, rfl⟩
          by_cases hjm : j = m
          · subst hjm; exact ⟨j - 1, by omega, he.symm⟩
          · exact ⟨j, by omega, rfl⟩
      · rw [Lib.keeps_pos he, if_pos rfl]
        refine ⟨List.pairwise_append.2 ⟨h1, by simp, fun a ha b hb => ?_⟩, fun x => ?_⟩
        · obtain ⟨j, hj, rfl⟩ := (h2 a).1 ha
          rw [List.mem_singleton.1 hb]
          have a1 := hs j (m - 1) (by omega) (by omega)
          have a2 := hs (m - 1) m (by omega) (by omega)
          omega
        · rw [List.mem_append, h2 x]
          constructor
          · rintro (⟨j, hj, rfl⟩ | h)
            · exact ⟨j, by omega, rfl⟩
            · exact ⟨m, by omega, (List.mem_singleton.1 h).symm⟩
          · rintro ⟨j, hj, rfl⟩
            by_cases hjm : j = m
            · subst hjm; exact .inr (by simp)
            · exact .inl ⟨j, by omega, rfl⟩

theorem risen_mem (zs : List Int) (x : Int) : x ∈ risen zs ↔ x ∈ zs := by unfold risen; exact (List.mergeSort_perm zs _).mem_iff
theorem risen_sorted (zs : List Int) : (risen zs).Pairwise (· ≤ ·) := by
  have tr : ∀ a b c : Int, decide (a ≤ b) = true → decide (b ≤ c) = true → decide (a ≤ c) = true := fun a b c h1 h2 => by simp at *; omega
  have tu : ∀ a b : Int, (decide (a ≤ b) || decide (b ≤ a)) = true := fun a b => by simp; omega
  exact (List.pairwise_mergeSort tr tu zs).imp fun h => by simpa using h
theorem listS_spec (S : List (Int × Int)) : (listS S).Pairwise (· < ·) ∧ ∀ x, x ∈ listS S ↔ x ∈ S.map (·.2) := by
  obtain ⟨zs, hzs⟩ : ∃ zs, zs = risen (S.map (·.2)) := ⟨_, rfl⟩
  have hsort := risen_sorted (S.map (·.2))
  have hmem := risen_mem (S.map (·.2))
  unfold listS
  rw [← hzs] at hsort hmem ⊢
  have hget : ∀ i (hi : i < zs.length), zs.toArray[i]! = zs[i] := fun i hi => by simp [hi]
  obtain ⟨h1, h2⟩ := compactUpTo_spec (d := zs.toArray) (fun i j hij hj => by
    have hj' : j < zs.length := by simpa using hj
    rw [hget i (by omega), hget j hj']
    by_cases e : i = j
    · subst e; exact Int.le_refl _
    · exact (List.pairwise_iff_getElem.1 hsort) i j (by omega) hj' (by omega)) zs.length (by simp)
  refine ⟨h1, fun x => ?_⟩
  show x ∈ Lib.compactUpTo zs.toArray zs.length ↔ _
  rw [h2 x, ← hmem x]
  constructor
  · rintro ⟨j, hj, rfl⟩; rw [hget j hj]; exact List.getElem_mem hj
  · intro hx
    obtain ⟨j, hj, rfl⟩ := List.getElem_of_mem hx
    exact ⟨j, hj, hget j hj⟩

/-- Is a number above the last of those? -/
def abS (zs : List Int) (x : Int) : Bool := match zs.getLast? with | none => true | some z => decide (z < x)
theorem abS_nil (x : Int) : abS [] x = true := rfl
theorem abS_snoc (ys : List Int) (z x : Int) : abS (ys ++ [z]) x = decide (z < x) := by unfold abS; rw [List.getLast?_concat]

theorem ab_next {S : List (Int × Int)} {zs : List Int} (hz : zs = (listS S).take zs.length) {i : Nat} (hi : i < (listS S).length) : abS zs (listS S)[i] = decide (zs.length ≤ i) := by
  obtain ⟨h1, h2⟩ := listS_spec S
  rcases List.eq_nil_or_concat zs with h0 | ⟨ys, z, h0⟩
  · subst h0; simp [abS_nil]
  · rw [List.concat_eq_append] at h0
    subst h0
    rw [abS_snoc]
    have hl : ys.length < (listS S).length := by
      have := congrArg List.length hz
      simp at this
      omega
    have hz' : z = (listS S)[ys.length] := by
      have h3 : (ys ++ [z])[ys.length]? = ((listS S).take (ys ++ [z]).length)[ys.length]? := by rw [← hz]
      rw [List.getElem?_append_right (Nat.le_refl _), Nat.sub_self, List.getElem?_take_of_lt (by simp), List.getElem?_eq_getElem hl] at h3
      simpa using h3
    rw [hz', decide_eq_decide]
    rw [List.length_append, List.length_singleton]
    constructor
    · intro h
      by_cases hle : i ≤ ys.length
      · by_cases e : i = ys.length
        · subst e; omega
        · have := (List.pairwise_iff_getElem.1 h1) i ys.length hi hl (by omega); omega
      · omega
    · intro h
      exact (List.pairwise_iff_getElem.1 h1) ys.length i hl hi (by omega)

theorem pick_none {S : List (Int × Int)} {zs : List Int} (hz : zs = (listS S).take zs.length) (hno : ∀ (p : Nat) (y : Int × Int), S[p]? = some y → abS zs y.2 = false) : zs = listS S := by
  by_cases hl : zs.length < (listS S).length
  · exfalso
    have hmem : (listS S)[zs.length] ∈ S.map (·.2) := ((listS_spec S).2 _).1 (List.getElem_mem hl)
    obtain ⟨y, hy, hye⟩ := List.mem_map.1 hmem
    obtain ⟨p, hp, rfl⟩ := List.getElem_of_mem hy
    have h1 := hno p _ (List.getElem?_eq_getElem hp)
    have h2 := ab_next hz hl
    rw [← hye, h1] at h2
    simp at h2
  · rw [List.take_of_length_le (by omega)] at hz
    exact hz
theorem pick_next {S : List (Int × Int)} {zs : List Int} (hz : zs = (listS S).take zs.length) {j : Nat} {x : Int × Int} (hx : S[j]? = some x) (hab : abS zs x.2 = true) (hmin : ∀ (p : Nat) (y : Int × Int), S[p]? = some y → abS zs y.2 = true → x.2 ≤ y.2) :
    zs.length < (listS S).length ∧ zs ++ [x.2] = (listS S).take (zs ++ [x.2]).length := by
  obtain ⟨h1, h2⟩ := listS_spec S
  have hm : x.2 ∈ listS S := (h2 _).2 (List.mem_map_of_mem (List.mem_of_getElem? hx))
  obtain ⟨i, hi, hie⟩ := List.getElem_of_mem hm
  have h3 := ab_next hz hi
  rw [hie, hab] at h3
  have hzi : zs.length ≤ i := by simpa using h3.symm
  have hl : zs.length < (listS S).length := by omega
  have hmem : (listS S)[zs.length] ∈ S.map (·.2) := (h2 _).1 (List.getElem_mem hl)
  obtain ⟨y, hy, hye⟩ := List.mem_map.1 hmem
  obtain ⟨p, hp, rfl⟩ := List.getElem_of_mem hy
  have h4 := ab_next hz hl
  rw [← hye] at h4
  have h5 := hmin p _ (List.getElem?_eq_getElem hp) (by rw [h4]; simp)
  have heq : x.2 = (listS S)[zs.length] := by
    by_cases e : i = zs.length
    · subst e; exact hie.symm
    · have := (List.pairwise_iff_getElem.1 h1) zs.length i hl hi (by omega)
      rw [hye] at h5
      omega
  refine ⟨hl, ?_⟩
  rw [List.length_append, List.length_singleton, List.take_succ_eq_append_getElem hl, ← hz, heq]

end Go.Proofs.Yteofjdiflpddbaa
