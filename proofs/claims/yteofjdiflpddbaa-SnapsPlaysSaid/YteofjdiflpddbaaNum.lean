/- Numbers of 64 bits, one cell each. -/
import Derived.Test.YteofjdiflpddbaaChecked
import Derived.Test.YteofjdiflpddbaaMem
namespace Go.Proofs.Yteofjdiflpddbaa
open Go.RowKit

def encN (x : Int) : List Value := [.int .u64 x]
theorem encN_len (x : Int) : (encN x).length = 1 := rfl
theorem encN_one : ∀ x, ∀ u ∈ encN x, u.oneCell' = true := by
  intro x u hu
  simp only [encN, List.mem_singleton] at hu
  subst hu
  rfl
theorem Try.infoNum : (Try.prog.info? 30).map (fun i => (i.zero, i.size, i.bytes)) = some (some (.int .u64 0), 1, 8) := by kernel_rfl
theorem at_oneN (w : World) (e : Nat) (x : Int) {g : Nat} (hg : g = w.heap.size) : At (w.alloc (.cells #[.int .u64 x] e)) encN 1 (some ⟨g, 0, none⟩) 1 [x] := hg ▸ at_one w encN 1 e encN_len x _ rfl
theorem encN_flat (zs : List Int) : zs.flatMap encN = zs.map (Value.int .u64) := by
  induction zs with
  | nil => rfl
  | cons z zs ih => rw [List.flatMap_cons, List.map_cons, ih]; rfl

end Go.Proofs.Yteofjdiflpddbaa
