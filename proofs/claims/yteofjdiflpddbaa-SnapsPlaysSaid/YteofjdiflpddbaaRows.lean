/-
  No cell of these rows narrows 'for every input' (looked for: loops, veiled, ifaces, maps, wideKeys, modest, calm, conditions, laid).
  DERIVED. THE GIVEN ROWS OF THIS SEAT. 4 by the template 'for every input the law returns true; each argument reads behind the call as it read before'; 0 by the template 'total and deterministic' (their statements: YteofjdiflpddbaaTotals.lean).
  GIVEN WITH THE SEED: the statements are not yours to turn. If you find one false, say at which input.
  Laid BY PROGRAM, IN A SANDBOX (cutbox-rows.mjs): the forced cells as the released guide's own fill.sh prints them over the translation fd57f44df0041bb5… (all of the seat's roots in one cut). By AI agents, Wed Nov 11 2026. No macro, syntax, notation, axiom, sorry.
-/
import Derived.Test.YteofjdiflpddbaaChecked
import GoSem.Claim
import GoSem.ClaimJoined
import GoSem.ClaimMapViews
import Derived.JoinedTies
import Derived.KernelRfl
namespace Go.Proofs.Yteofjdiflpddbaa
/- THE CELL 'sum', in the pinned program and in every row, IS THE sha256 OF THE DUMP (.gsa) THAT YteofjdiflpddbaaProg.lean LOADS. Nothing in Lean hashes anything: it is a label: what it is worth is what the hold of that sum in a sandbox is worth. -/
noncomputable def Try.pinned : Pinned := { name := "yteofjdiflpddbaa", sum := "fd57f44df0041bb50487a26e5a1dd2e28a0098fb82591da0b50c33165a37164a", checked := Try.checked }
namespace Rows
def none {H : Type} : Left H := { results := [], args := [] }

/-- 'staddlelaw20.SnapsNames': WHATEVER THE INPUT: true; the input reads as it did. -/
def snapsNamesSpec : ChangeSpec := { name := "snapsNames", fn := fun _ => fun
  | [] => { results := [.lit (.bool true)], args := [] }
  | _ => none }
def snapsNamesRow : OpenClaim := { program := "yteofjdiflpddbaa", sum := "fd57f44df0041bb50487a26e5a1dd2e28a0098fb82591da0b50c33165a37164a", func := "staddle/staddlelaw20.SnapsNames", spec := "snapsNames", recurses := true, apart := false }
def SnapsNamesSaid : Prop := snapsNamesRow.holds Try.pinned (OpenSpec.ofChange snapsNamesSpec)

/-- ITS FALSE NEIGHBOUR: 'it returns false'. Refute it at one input. -/
def snapsNamesWrong : ChangeSpec := { name := "snapsNames", fn := fun _ => fun
  | [] => { results := [.lit (.bool false)], args := [] }
  | _ => none }
def SnapsNamesWrongFalsely : Prop := snapsNamesRow.holds Try.pinned (OpenSpec.ofChange snapsNamesWrong)

/-- 'staddlelaw20.SnapsPlays': WHATEVER THE INPUT: true; the input reads as it did. -/
def snapsPlaysSpec : ChangeSpec := { name := "snapsPlays", fn := fun _ => fun
  | [d] => { results := [.lit (.bool true)], args := [d] }
  | _ => none }
def snapsPlaysRow : OpenClaim := { program := "yteofjdiflpddbaa", sum := "fd57f44df0041bb50487a26e5a1dd2e28a0098fb82591da0b50c33165a37164a", func := "staddle/staddlelaw20.SnapsPlays", spec := "snapsPlays", recurses := true, apart := false }
def SnapsPlaysSaid : Prop := snapsPlaysRow.holds Try.pinned (OpenSpec.ofChange snapsPlaysSpec)

/-- ITS FALSE NEIGHBOUR: 'it returns false'. Refute it at one input. -/
def snapsPlaysWrong : ChangeSpec := { name := "snapsPlays", fn := fun _ => fun
  | [d] => { results := [.lit (.bool false)], args := [d] }
  | _ => none }
def SnapsPlaysWrongFalsely : Prop := snapsPlaysRow.holds Try.pinned (OpenSpec.ofChange snapsPlaysWrong)

/-- 'staddlelaw20.SnapsHolds': WHATEVER THE INPUT: true; the input reads as it did. -/
def snapsHoldsSpec : ChangeSpec := { name := "snapsHolds", fn := fun _ => fun
  | [d1, d2] => { results := [.lit (.bool true)], args := [d1, d2] }
  | _ => none }
def snapsHoldsRow : OpenClaim := { program := "yteofjdiflpddbaa", sum := "fd57f44df0041bb50487a26e5a1dd2e28a0098fb82591da0b50c33165a37164a", func := "staddle/staddlelaw20.SnapsHolds", spec := "snapsHolds", recurses := true, apart := false }
def SnapsHoldsSaid : Prop := snapsHoldsRow.holds Try.pinned (OpenSpec.ofChange snapsHoldsSpec)

/-- ITS FALSE NEIGHBOUR: 'it returns false'. Refute it at one input. -/
def snapsHoldsWrong : ChangeSpec := { name := "snapsHolds", fn := fun _ => fun
  | [d1, d2] => { results := [.lit (.bool false)], args := [d1, d2] }
  | _ => none }
def SnapsHoldsWrongFalsely : Prop := snapsHoldsRow.holds Try.pinned (OpenSpec.ofChange snapsHoldsWrong)

/-- 'staddlelaw20.SnapsNil': WHATEVER THE INPUT: true; the input reads as it did. -/
def snapsNilSpec : ChangeSpec := { name := "snapsNil", fn := fun _ => fun
  | [d] => { results := [.lit (.bool true)], args := [d] }
  | _ => none }
def snapsNilRow : OpenClaim := { program := "yteofjdiflpddbaa", sum := "fd57f44df0041bb50487a26e5a1dd2e28a0098fb82591da0b50c33165a37164a", func := "staddle/staddlelaw20.SnapsNil", spec := "snapsNil", recurses := true, apart := false }
def SnapsNilSaid : Prop := snapsNilRow.holds Try.pinned (OpenSpec.ofChange snapsNilSpec)

/-- ITS FALSE NEIGHBOUR: 'it returns false'. Refute it at one input. -/
def snapsNilWrong : ChangeSpec := { name := "snapsNil", fn := fun _ => fun
  | [d] => { results := [.lit (.bool false)], args := [d] }
  | _ => none }
def SnapsNilWrongFalsely : Prop := snapsNilRow.holds Try.pinned (OpenSpec.ofChange snapsNilWrong)

/- THE SECOND FORM. 'bulk': how many values and letters a reading holds, each counted each time it is reached (what is shared counts as often as it is met; a slice's spare places count too). A statement '..UptoSaid' is the law's where the arguments, and the package variables that the reading takes, are together of bulk at most 1048576: NARROWER than '..Said'. Prove '..Said' where nothing that the law and all that it calls make is longer than what came in: it says more and counts as full. Else prove '..UptoSaid'. A law counts once. -/
mutual
def uptoBulk {H : Type} : DataW H → Nat
  | .lit (.string bytes) => bytes.length + 1
  | .lit _ => 1
  | .nil => 1
  | .ptr d => uptoBulk d + 1
  | .slice elems spare => uptoBulkAll elems + uptoBulkAll spare + 1
  | .agg parts => uptoBulkAll parts + 1
  | .iface _ d => uptoBulk d + 1
  | .map entries => uptoBulkEntries entries + 1
  | .held _ => 1
def uptoBulkAll {H : Type} : List (DataW H) → Nat
  | [] => 0
  | d :: r => uptoBulk d + uptoBulkAll r
def uptoBulkEntries {H : Type} : List (Lit × DataW H) → Nat
  | [] => 0
  | x :: r => uptoBulkEntry x + uptoBulkEntries r
def uptoBulkEntry {H : Type} : Lit × DataW H → Nat
  | (.string bytes, d) => bytes.length + uptoBulk d + 1
  | (_, d) => uptoBulk d + 1
 end
def uptoSmall : (H : Type) → List (DataW H) → Bool := fun _ ds => decide (uptoBulkAll ds ≤ 1048576)
def OpenSpec.upto (s : _root_.Go.ChangeSpec) : _root_.Go.OpenSpec := { _root_.Go.OpenSpec.ofChange s with cond := some uptoSmall }

/-- 'staddlelaw20.SnapsNames', WHERE WHAT IT READS IS OF BULK AT MOST 1048576: true; the input reads as it did. -/
def snapsNamesUptoRow : OpenClaim := { program := "yteofjdiflpddbaa", sum := "fd57f44df0041bb50487a26e5a1dd2e28a0098fb82591da0b50c33165a37164a", func := "staddle/staddlelaw20.SnapsNames", spec := "snapsNames", recurses := true, apart := false, narrowed := true }
def SnapsNamesUptoSaid : Prop := snapsNamesUptoRow.holds Try.pinned (OpenSpec.upto snapsNamesSpec)

/-- 'staddlelaw20.SnapsPlays', WHERE WHAT IT READS IS OF BULK AT MOST 1048576: true; the input reads as it did. -/
def snapsPlaysUptoRow : OpenClaim := { program := "yteofjdiflpddbaa", sum := "fd57f44df0041bb50487a26e5a1dd2e28a0098fb82591da0b50c33165a37164a", func := "staddle/staddlelaw20.SnapsPlays", spec := "snapsPlays", recurses := true, apart := false, narrowed := true }
def SnapsPlaysUptoSaid : Prop := snapsPlaysUptoRow.holds Try.pinned (OpenSpec.upto snapsPlaysSpec)

/-- 'staddlelaw20.SnapsHolds', WHERE WHAT IT READS IS OF BULK AT MOST 1048576: true; the input reads as it did. -/
def snapsHoldsUptoRow : OpenClaim := { program := "yteofjdiflpddbaa", sum := "fd57f44df0041bb50487a26e5a1dd2e28a0098fb82591da0b50c33165a37164a", func := "staddle/staddlelaw20.SnapsHolds", spec := "snapsHolds", recurses := true, apart := false, narrowed := true }
def SnapsHoldsUptoSaid : Prop := snapsHoldsUptoRow.holds Try.pinned (OpenSpec.upto snapsHoldsSpec)

/-- 'staddlelaw20.SnapsNil', WHERE WHAT IT READS IS OF BULK AT MOST 1048576: true; the input reads as it did. -/
def snapsNilUptoRow : OpenClaim := { program := "yteofjdiflpddbaa", sum := "fd57f44df0041bb50487a26e5a1dd2e28a0098fb82591da0b50c33165a37164a", func := "staddle/staddlelaw20.SnapsNil", spec := "snapsNil", recurses := true, apart := false, narrowed := true }
def SnapsNilUptoSaid : Prop := snapsNilUptoRow.holds Try.pinned (OpenSpec.upto snapsNilSpec)

end Rows
end Go.Proofs.Yteofjdiflpddbaa
