/- The walk of layer 20's awake: it answers true; 'SnapsNames', 'SnapsNil'. -/
import Derived.Test.YteofjdiflpddbaaSnapList
namespace Go.Proofs.Yteofjdiflpddbaa
open Go.Proofs Go.RowKit Go.Maps

theorem list_53 : listS [(0, 5), (1, 3)] = [3, 5] := by
  have h : risen [5, 3] = [3, 5] := by
    have := (List.mergeSort_perm [5, 3] (fun x y : Int => decide (x ≤ y)))
    refine List.Perm.eq_of_pairwise (le := fun a b : Int => decide (a ≤ b) = true) (fun a b _ _ h1 h2 => by simp at h1 h2; omega) (List.pairwise_mergeSort (fun a b c h1 h2 => by simp at *; omega) (fun a b => by simp; omega) [5, 3]) (by decide) (this.trans (List.Perm.swap 3 5 []))
  unfold listS
  rw [show ([(0, 5), (1, 3)] : List (Int × Int)).map (·.2) = [5, 3] from rfl, h]
  decide

set_option maxRecDepth 100000 in
set_option maxHeartbeats 1000000 in
theorem awake20_any (w : World) : Calls Try.prog 7 #[] w fun e w' => e = .returned (.bool true) ∧ Below w.heap.size w w' := by
  go_enter Try.func7, Try.ntmps7
  go_wp2_with (first
    | (go_at_call 8; refine (new_any _).mono ?_; rintro e w1 ⟨rfl, hs1, hb1⟩)
    | (go_at_call_of 9 (Value.int IntKind.u64 5); refine (take_any (w.heap.size + 1) w.heap.size [] 0 5 _ hs1 (by simp) (by omega) (by omega) (by decide) rfl).mono ?_; rintro e w2 ⟨rfl, hs2, ho2⟩)
    | (go_at_call_of 9 (Value.int IntKind.u64 3); refine (take_any (w.heap.size + 1) w.heap.size [(0, 5)] 1 3 _ hs2 (by simp) (by omega) (by omega) (by decide) rfl).mono ?_; rintro e w3 ⟨rfl, hs3, ho3⟩)
    | (go_at_call 15; refine (list_any (w.heap.size + 1) w.heap.size [(0, 5), (1, 3)] 2 _ hs3 (by decide) (by simp)).mono ?_; rw [list_53]; rintro e w4 ⟨v4, rfl, hown4, hb4⟩; have hs4 := hs3.below hb4; obtain ⟨ao4, c4, rfl, hat4⟩ := at_of_own encN_len hown4 rfl; obtain ⟨b1, off1, hbl1, hix1, hcs1⟩ := idx_at (P := Try.prog) hat4 39 30 Try.underlying39 Try.sizeOf30 (i := 0) (x := 3) rfl; obtain ⟨b2, off2, hbl2, hix2, hcs2⟩ := idx_at (P := Try.prog) hat4 39 30 Try.underlying39 Try.sizeOf30 (i := 1) (x := 5) rfl; have i1 : ∀ wx, (Instr.indexAt 39 (.slice ao4 2 c4) (.int .i64 0)).run Try.prog wx = .ok (.pointer (some ⟨b1, off1, none⟩)) wx := (fun wx => by simpa using hix1 .i64 wx); have i2 : ∀ wx, (Instr.indexAt 39 (.slice ao4 2 c4) (.int .i64 1)).run Try.prog wx = .ok (.pointer (some ⟨b2, off2 + 1, none⟩)) wx := (fun wx => by simpa using hix2 .i64 wx); have e1 : w4.cell? ⟨b1, off1, none⟩ = some (.int .u64 3) := (by simpa using hcs1 0 _ rfl); have e2 : w4.cell? ⟨b2, off2 + 1, none⟩ = some (.int .u64 5) := (by simpa using hcs2 0 _ rfl))
    | (go_at_call 11; refine (seq_any (w.heap.size + 1) w.heap.size [(0, 5), (1, 3)] 2 0 _ hs4 (by decide)).mono ?_; rintro e w5 ⟨rfl, rfl⟩)
    | (go_at_call 13; refine (release_any (w.heap.size + 1) w.heap.size [(0, 5), (1, 3)] 2 9 _ hs4 (by decide) (by decide)).mono ?_; rintro e w6 ⟨rfl, hs6, ho6⟩))
  go_ret
  refine ⟨rfl, ?_⟩
  have hm : ∀ k, mayS (w.heap.size + 1) w.heap.size k → w.heap.size ≤ k := fun k h => by rcases h with rfl | rfl <;> omega
  have h2 := hb1.trans (ho2.below hb1.size hm)
  have h3 := h2.trans (ho3.below h2.size hm)
  have h4 := btr h3 hb4
  exact h4.trans (ho6.below h4.size hm)

theorem snapsNames_any (w : World) : Calls Try.prog 3 #[] w fun e w' => e = .returned (.bool true) ∧ Below w.heap.size w w' := by
  go_enter Try.func3, Try.ntmps3
  go_wp2_with (go_at_call 7; refine (awake20_any _).mono ?_; rintro e w1 ⟨rfl, hb1⟩)
  go_ret
  exact ⟨rfl, hb1⟩

set_option maxRecDepth 100000 in
set_option maxHeartbeats 1000000 in
theorem snapsNil_any (k s i : Int) (w : World) : Calls Try.prog 6 #[.agg #[.int .i64 k, .int .u64 s, .int .i64 i]] w fun e w' => e = .returned (.bool true) ∧ Below w.heap.size w w' := by
  obtain ⟨W0, hW0⟩ : ∃ W0, W0 = w.alloc (.cells #[.int .i64 k, .int .u64 s, .int .i64 i] 32) := ⟨_, rfl⟩
  have hv : VarS W0 w.heap.size #[.int .i64 k, .int .u64 s, .int .i64 i] 32 := by rw [hW0]; exact heap_alloc_new _ _
  have hb0 : Below w.heap.size w W0 := by rw [hW0]; exact bal (Below.refl _ _) _
  have hlt0 := hv.lt
  have c1 := hv.cell 1
  have c2 := hv.cell 2
  have HW := Lib.hid hW0
  clear hW0 hv
  go_enter Try.func6, Try.ntmps6
  go_wp2_with (first
    | (go_at_call 7; rw [← HW.out]; refine (awake20_any _).mono ?_; rintro e w1 ⟨rfl, hb1⟩; have d1 := (hb1.cell (p := ⟨w.heap.size, 1, none⟩) hlt0).trans c1; have d2 := (hb1.cell (p := ⟨w.heap.size, 2, none⟩) hlt0).trans c2)
    | (go_at_call 9; refine (takeNil_any _ _).mono ?_; rintro e w2 ⟨rfl, rfl⟩)
    | (go_at_call 11; refine (seqNil_any _ _).mono ?_; rintro e w2 ⟨rfl, rfl⟩)
    | (go_at_call 13; refine (releaseNil_any _ _).mono ?_; rintro e w2 ⟨rfl, rfl⟩)
    | (go_at_call 15; refine (listNil_any _).mono ?_; rintro e w2 ⟨rfl, rfl⟩))
  go_ret
  exact ⟨rfl, btr hb0 hb1⟩

end Go.Proofs.Yteofjdiflpddbaa
