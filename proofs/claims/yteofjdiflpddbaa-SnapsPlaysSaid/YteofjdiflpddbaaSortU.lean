/- slices.Sort at uint64: the row sorted; nothing else turns but draws and new blocks. -/
import Derived.Test.YteofjdiflpddbaaSortB
import Derived.Test.YteofjdiflpddbaaSortC
import Derived.Test.YteofjdiflpddbaaSortE
import Derived.Test.YteofjdiflpddbaaSortG
import Derived.Test.YteofjdiflpddbaaSortH
import Derived.Test.YteofjdiflpddbaaSortI
import Derived.Sort.AssemblyPlain
import Derived.Sort.WalkA14
namespace Go.Proofs.Yteofjdiflpddbaa
open Go.Proofs Go.RowKit Go.Sort

theorem calleesU : CalleesU where
  ins := insertU_any
  brk := breakPatternsU_any
  piv := choosePivotU_any
  par := partialInsertionSortU_any
  peq := partitionEqualOrderedU_any
  prt := partitionOrderedU_any
theorem plainU : Plain13 where
  swo := swo_ltInt
  ins := insertionSort_holds
  par := partialInsertionSort_holds
  prt := partition_holds _
  peq := partitionEqual_holds _
  pdq := pdq_sorts _

set_option maxRecDepth 100000 in
theorem sortRow_any (blk off cap : Nat) (d : Array Int) (w : World) (hH : Holds (Value.int .u64) w blk off d) (hblk : blk < w.heap.size) (hsz : d.size < 4611686018427387904) :
    Calls Try.prog 18 #[.slice (some ⟨blk, off, none⟩) d.size cap] w fun e w' => e = .returned (.tuple #[]) ∧ ∃ n os, w' = grow (putRow (Value.int .u64) (Sort.ahead w n) blk off (Sort.sort ltInt d)) os := by
  have HH := Lib.hid hH
  clear hH
  have hLen : ∀ w, Calls Try.prog 21 #[.int .u64 (d.size : Int)] w fun e w' => e = .returned (.int .i64 (bitsLen d.size : Nat)) ∧ w' = w := fun w => by
    have h := bitsLen_any (d.size : Int) w (by omega) (by omega)
    rwa [Int.toNat_natCast, bitLen_eq _ (by omega)] at h
  have hk : bitsLen d.size ≤ 62 := (bitsLen_le_iff d.size 62).2 (by omega)
  go_enter Try.func18, Try.ntmps18
  go_wp2_with (first
    | (go_at_call 21; refine (hLen _).mono ?_; rintro e w' ⟨rfl, rfl⟩)
    | (go_at_call 20; refine (pdqsortU_any calleesU plainU (d.size - 0 + 1) blk off cap 0 d.size (bitsLen d.size) d _ (by omega) (by exact HH.out) (by exact hblk) (Nat.zero_le _) (Nat.le_refl _) hsz (by omega) (Or.inl rfl)).mono ?_; rintro e w' ⟨rfl, n, os, rfl⟩))
  go_end0
  exact ⟨rfl, n, os, rfl⟩

theorem insertionSortU_nil (p : Option Addr) (cap : Nat) (w : World) :
    Calls Try.prog 22 #[.slice p 0 cap, .int .i64 0, .int .i64 0] w fun e w' => e = .returned (.tuple #[]) ∧ w' = w := by
  go_enter Try.func22, Try.ntmps22
  go_wp2
  refine wp_loop_rounds 1 ?_
  rw [rounds_succ]
  go_wp2
  go_end0
  exact ⟨rfl, rfl⟩
set_option maxRecDepth 100000 in
theorem pdqsortU_nil (p : Option Addr) (cap : Nat) (w : World) :
    Calls Try.prog 20 #[.slice p 0 cap, .int .i64 0, .int .i64 0, .int .i64 0] w fun e w' => e = .returned (.tuple #[]) ∧ w' = w := by
  go_enter Try.func20, Try.ntmps20
  go_wp2
  refine wp_loop_rounds 1 ?_
  rw [rounds_succ]
  go_wp2_with (first | (go_at_call 22; refine (insertionSortU_nil p cap _).mono ?_; rintro e w' ⟨rfl, rfl⟩))
  refine bodyPost_ret (results_none rfl _ _ _) rfl ?_
  exact ⟨rfl, rfl⟩
set_option maxRecDepth 100000 in
theorem sortRow_nil (p : Option Addr) (cap : Nat) (w : World) :
    Calls Try.prog 18 #[.slice p 0 cap] w fun e w' => e = .returned (.tuple #[]) ∧ w' = w := by
  have hLen : ∀ w, Calls Try.prog 21 #[.int .u64 0] w fun e w' => e = .returned (.int .i64 0) ∧ w' = w := fun w => bitsLen_any 0 w (by omega) (by omega)
  go_enter Try.func18, Try.ntmps18
  go_wp2_with (first
    | (go_at_call 21; refine (hLen _).mono ?_; rintro e w' ⟨rfl, rfl⟩)
    | (go_at_call 20; refine (pdqsortU_nil p cap _).mono ?_; rintro e w' ⟨rfl, rfl⟩))
  go_end0
  exact ⟨rfl, rfl⟩

/-- The numbers of a list, rising. -/
def risen (zs : List Int) : List Int := zs.mergeSort fun x y => decide (x ≤ y)
theorem risen_eq (zs : List Int) : Sort.sort ltInt zs.toArray = (risen zs).toArray := by
  unfold risen
  rw [← sortInt zs]

end Go.Proofs.Yteofjdiflpddbaa
