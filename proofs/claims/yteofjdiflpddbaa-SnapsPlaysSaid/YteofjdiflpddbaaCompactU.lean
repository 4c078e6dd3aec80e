/- slices.Compact at uint64, off the shelf (laid by the kit's lay-shelf, lay-plain), of a slice that the call owns. -/
import Derived.Shelf.SlGeneric
import Derived.Shelf.SlicesE.Compact
import Derived.Ground.SlgnProg
import Derived.Test.YteofjdiflpddbaaSortOwn
namespace Go.Proofs.Yteofjdiflpddbaa
open Go.Shelf Go.Proofs Go.RowKit Go.Sort
def compactU_ren : Go.Shelf.Ren := ⟨fun | 43 => 19 | n => n, fun | 22 => 39 | 23 => 30 | 3 => 3 | 4 => 4 | 0 => 0 | n => n, fun | n => n⟩
theorem compactU_lays : Go.Proofs.SlLaysE.n43 Try.prog compactU_ren := {
  mixed := by kernel_rfl
  f43 := ⟨Try.f19.name, by decide, Try.func19.trans (congrArg some (by kernel_rfl))⟩
  t0 := Try.underlying0
  a0 := Try.isAgg0
  z0 := Try.sizeOf0
  v0 := Try.zeroValue0
  t3 := Try.underlying3
  a3 := Try.isAgg3
  z3 := Try.sizeOf3
  v3 := Try.zeroValue3
  t4 := Try.underlying4
  a4 := Try.isAgg4
  z4 := Try.sizeOf4
  v4 := Try.zeroValue4
  t22 := Try.underlying39
  a22 := Try.isAgg39
  z22 := Try.sizeOf39
  v22 := Try.zeroValue39
  a23 := Try.isAgg30
  z23 := Try.sizeOf30 }

theorem compact_nil (w : World) : Calls Try.prog 19 #[.slice none 0 0] w fun e w' => e = .returned (.slice none 0 0) ∧ w' = w := by
  go_enter Try.func19, Try.ntmps19
  go_wp2
  go_ret
  exact ⟨rfl, rfl⟩

theorem compact_le (zs : List Int) : (Lib.compact zs).length ≤ zs.length := by
  unfold Lib.compact Lib.compactUpTo
  rw [List.length_map]
  exact Nat.le_trans (List.length_filter_le _ _) (by simp)

theorem compactOwn_any (v : Value) (zs : List Int) (base : Nat) (w : World) (hown : w.ownsRow base 30 1 v zs.length (zs.flatMap encN)) (hmax : zs.length < 4611686018427387904) :
    Calls Try.prog 19 #[v] w fun e w' => ∃ v', e = .returned v' ∧ w'.ownsRow base 30 1 v' (Lib.compact zs).length ((Lib.compact zs).flatMap encN) ∧ w.grownBy w' v.ownBlock := by
  rw [encN_flat] at hown
  rw [encN_flat]
  rcases id hown.2 with ⟨rfl, h0⟩ | ⟨g, cap, cur, rfl, hb, hg, hnc, hcm, hcs, htake⟩
  · have : zs = [] := List.eq_nil_of_length_eq_zero h0
    subst this
    refine (compact_nil w).mono fun e w' h => ?_
    obtain ⟨rfl, rfl⟩ := h
    exact ⟨_, rfl, hown, World.grownBy.refl _ _⟩
  · have hl : (zs.toArray).size = zs.length := by simp
    have h := AnyE.slices_Compact compactU_lays (Value.int .u64) (fun _ => rfl) (EqlAt.intD _ _ .u64) (NeqAt.intD _ _ .u64) 0 Try.zeroValue30 g 0 cap zs.toArray w (holds_owned hg (by simpa using htake)) (by rw [hl]; omega) (by rw [hl]; exact hnc)
    have h' : Calls Try.prog 19 #[.slice (some ⟨g, 0, none⟩) (zs.toArray).size cap] w fun e w' => e = .returned (.slice (some ⟨g, 0, none⟩) (Lib.compactUpTo zs.toArray zs.toArray.size).length cap) ∧
        ∃ q, w' = putRow (Value.int .u64) (Sort.ahead w q) g 0 (Lib.compactUpTo zs.toArray zs.toArray.size ++ List.replicate (zs.toArray.size - (Lib.compactUpTo zs.toArray zs.toArray.size).length) 0).toArray := h
    rw [hl] at h'
    refine h'.mono fun e w' h => ?_
    obtain ⟨rfl, q, rfl⟩ := h
    have hle := compact_le zs
    have hgr : w.grownBy (putRow (Value.int .u64) (Sort.ahead w q) g 0 (Lib.compactUpTo zs.toArray zs.length ++ List.replicate (zs.length - (Lib.compactUpTo zs.toArray zs.length).length) 0).toArray) (some g) := by
      have := grown_risen (w := w) (g := g) (n := q) (os := #[]) (Lib.compactUpTo zs.toArray zs.length ++ List.replicate (zs.length - (Lib.compactUpTo zs.toArray zs.length).length) 0).toArray
      rwa [grow_empty] at this
    have hheap := heap_risen (w := w) (g := g) (n := q) (os := #[]) (Lib.compactUpTo zs.toArray zs.length ++ List.replicate (zs.length - (Lib.compactUpTo zs.toArray zs.length).length) 0).toArray hg
    rw [grow_empty] at hheap
    refine ⟨_, rfl, ⟨by simp, .inr ⟨g, cap, _, rfl, hb, hheap, Nat.le_trans hle hnc, hcm, by simp [putCells, hcs], ?_⟩⟩, hgr⟩
    have hc : (Lib.compactUpTo zs.toArray zs.length).length ≤ zs.length := hle
    have hL : (Lib.compactUpTo zs.toArray zs.length ++ List.replicate (zs.length - (Lib.compactUpTo zs.toArray zs.length).length) (0 : Int)).length = zs.length := by simp; omega
    have ht := cells_risen cur (Lib.compactUpTo zs.toArray zs.length ++ List.replicate (zs.length - (Lib.compactUpTo zs.toArray zs.length).length) 0) (by rw [hL]; omega)
    rw [hL] at ht
    rw [Nat.mul_one]
    have h9 := congrArg (List.take (Lib.compactUpTo zs.toArray zs.length).length) ht
    rw [List.take_take, Nat.min_eq_left hc, ← List.map_take, List.take_append_of_le_length (Nat.le_refl _), List.take_length] at h9
    exact h9

end Go.Proofs.Yteofjdiflpddbaa
