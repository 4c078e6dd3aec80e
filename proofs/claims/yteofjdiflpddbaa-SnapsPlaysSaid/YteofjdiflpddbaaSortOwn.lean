/- slices.Sort at uint64, of a slice that the call owns. -/
import Derived.Test.YteofjdiflpddbaaSortU
import Derived.Test.YteofjdiflpddbaaNum
namespace Go.Proofs.Yteofjdiflpddbaa
open Go.Proofs Go.RowKit Go.Sort

theorem holds_owned {w : World} {g : Nat} {cur : Array Value} {e : TypeId} {zs : List Int} (hb : w.heap[g]? = some (.cells cur e (0, 0))) (ht : cur.toList.take zs.length = zs.map (Value.int .u64)) : Holds (Value.int .u64) w g 0 zs.toArray := by
  intro j hj
  have hj' : j < zs.length := by simpa using hj
  refine ⟨?_, by simp [World.frozen?, hb]⟩
  have h1 : (cur.toList.take zs.length)[j]? = (zs.map (Value.int .u64))[j]? := by rw [ht]
  rw [List.getElem?_take_of_lt hj'] at h1
  simp only [World.cell?, hb, Nat.zero_add]
  simp only [Option.isSome_none, Bool.false_eq_true, if_false]
  rw [← Array.getElem?_toList, h1]
  simp [hj']
theorem heap_risen {w : World} {g n : Nat} {os : Array Obj} {cur : Array Value} {e : TypeId} {fr : Nat × Nat} (d : Array Int) (hb : w.heap[g]? = some (.cells cur e fr)) :
    (grow (putRow (Value.int .u64) (Sort.ahead w n) g 0 d) os).heap[g]? = some (.cells (putCells (Value.int .u64) 0 d cur) e fr) := by
  have hg : g < w.heap.size := (Array.getElem?_eq_some_iff.1 hb).1
  rw [heap_grow_old _ _ (by simpa using hg)]
  simp [putRow, mapBlock, Sort.ahead, Array.getElem?_modify, hb, onCells]
theorem grown_risen {w : World} {g n : Nat} {os : Array Obj} (d : Array Int) : w.grownBy (grow (putRow (Value.int .u64) (Sort.ahead w n) g 0 d) os) (some g) := by
  refine ⟨rfl, rfl, rfl, by simp, fun k hk hne => ?_⟩
  rw [heap_grow_old _ _ (by simpa using hk)]
  have : g ≠ k := fun e => hne (by rw [e])
  simp [putRow, mapBlock, Sort.ahead, Array.getElem?_modify, this]
theorem cells_risen (cur : Array Value) (ts : List Int) (h : ts.length ≤ cur.size) : (putCells (Value.int .u64) 0 ts.toArray cur).toList.take ts.length = ts.map (Value.int .u64) := by
  apply List.ext_getElem?
  intro j
  by_cases hj : j < ts.length
  · rw [List.getElem?_take_of_lt hj, Array.getElem?_toList]
    simp [putCells, hj, show j < cur.size by omega]
  · rw [List.getElem?_take_eq_none (by omega), List.getElem?_eq_none (by simp; omega)]

theorem risen_length (zs : List Int) : (risen zs).length = zs.length := by simp [risen]
theorem sortOwn_any (v : Value) (zs : List Int) (base : Nat) (w : World) (hown : w.ownsRow base 30 1 v zs.length (zs.flatMap encN)) (hmax : zs.length < 4611686018427387904) :
    Calls Try.prog 18 #[v] w fun e w' => e = .returned (.tuple #[]) ∧ w'.ownsRow base 30 1 v zs.length ((risen zs).flatMap encN) ∧ w.grownBy w' v.ownBlock := by
  rw [encN_flat] at hown
  rw [encN_flat]
  rcases id hown.2 with ⟨rfl, h0⟩ | ⟨g, cap, cur, rfl, hb, hg, hnc, hcm, hcs, htake⟩
  · have : zs = [] := List.eq_nil_of_length_eq_zero h0
    subst this
    refine (sortRow_nil none 0 w).mono fun e w' h => ?_
    obtain ⟨rfl, rfl⟩ := h
    exact ⟨rfl, by simpa [risen] using hown, World.grownBy.refl _ _⟩
  · have hl : (zs.toArray).size = zs.length := by simp
    have h := sortRow_any g 0 cap zs.toArray w (holds_owned hg (by simpa using htake)) (Array.getElem?_eq_some_iff.1 hg).1 (by rw [hl]; exact hmax)
    rw [hl, risen_eq] at h
    refine h.mono fun e w' h => ?_
    obtain ⟨rfl, n, os, rfl⟩ := h
    refine ⟨rfl, ⟨by simp [risen_length], .inr ⟨g, cap, _, rfl, hb, heap_risen _ hg, hnc, hcm, by simp [putCells, hcs], ?_⟩⟩, grown_risen _⟩
    rw [Nat.mul_one, ← risen_length zs]
    exact cells_risen cur (risen zs) (by rw [risen_length]; omega)

end Go.Proofs.Yteofjdiflpddbaa
