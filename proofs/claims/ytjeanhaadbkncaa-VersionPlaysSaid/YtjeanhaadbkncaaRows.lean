/-
  No cell of these rows narrows 'for every input' (looked for: loops, veiled, ifaces, maps, wideKeys, modest, calm, conditions, laid).
  DERIVED. THE GIVEN ROWS OF THIS SEAT. 6 by the template 'for every input the law returns true; each argument reads behind the call as it read before'; 0 by the template 'total and deterministic' (their statements: YtjeanhaadbkncaaTotals.lean).
  GIVEN WITH THE SEED: the statements are not yours to turn. If you find one false, say at which input.
  Laid BY PROGRAM, IN A SANDBOX (cutbox-rows.mjs): the forced cells as the released guide's own fill.sh prints them over the translation d83bbda172f1a005… (all of the seat's roots in one cut). By AI agents, Wed Nov 11 2026. No macro, syntax, notation, axiom, sorry.
-/
import Derived.Test.YtjeanhaadbkncaaChecked
import GoSem.Claim
import GoSem.ClaimJoined
import GoSem.ClaimMapViews
import Derived.JoinedTies
import Derived.KernelRfl
namespace Go.Proofs.Ytjeanhaadbkncaa
/- THE CELL 'sum', in the pinned program and in every row, IS THE sha256 OF THE DUMP (.gsa) THAT YtjeanhaadbkncaaProg.lean LOADS. Nothing in Lean hashes anything: it is a label: what it is worth is what the hold of that sum in a sandbox is worth. -/
noncomputable def Try.pinned : Pinned := { name := "ytjeanhaadbkncaa", sum := "d83bbda172f1a005af9bbc219ae82f154048ccc404e5e9d0e7d834b98bc57f43", checked := Try.checked }
namespace Rows
def none {H : Type} : Left H := { results := [], args := [] }

/-- 'staddlelaw14.VersionNames': WHATEVER THE INPUT: true; the input reads as it did. -/
def versionNamesSpec : ChangeSpec := { name := "versionNames", fn := fun _ => fun
  | [] => { results := [.lit (.bool true)], args := [] }
  | _ => none }
def versionNamesRow : OpenClaim := { program := "ytjeanhaadbkncaa", sum := "d83bbda172f1a005af9bbc219ae82f154048ccc404e5e9d0e7d834b98bc57f43", func := "staddle/staddlelaw14.VersionNames", spec := "versionNames", inPlace := ["internal/bytealg.abigen_runtime_cmpstring", "slices.overlaps[staddle/api.File]"], unfollowed := true, recurses := true, apart := false }
def VersionNamesSaid : Prop := versionNamesRow.holds Try.pinned (OpenSpec.ofChange versionNamesSpec)

/-- ITS FALSE NEIGHBOUR: 'it returns false'. Refute it at one input. -/
def versionNamesWrong : ChangeSpec := { name := "versionNames", fn := fun _ => fun
  | [] => { results := [.lit (.bool false)], args := [] }
  | _ => none }
def VersionNamesWrongFalsely : Prop := versionNamesRow.holds Try.pinned (OpenSpec.ofChange versionNamesWrong)

/-- 'staddlelaw14.VersionPlays': WHATEVER THE INPUT: true; the input reads as it did. -/
def versionPlaysSpec : ChangeSpec := { name := "versionPlays", fn := fun _ => fun
  | [d1, d2] => { results := [.lit (.bool true)], args := [d1, d2] }
  | _ => none }
def versionPlaysRow : OpenClaim := { program := "ytjeanhaadbkncaa", sum := "d83bbda172f1a005af9bbc219ae82f154048ccc404e5e9d0e7d834b98bc57f43", func := "staddle/staddlelaw14.VersionPlays", spec := "versionPlays", inPlace := ["internal/bytealg.abigen_runtime_cmpstring", "slices.overlaps[staddle/api.File]"], unfollowed := true, recurses := true, apart := false }
def VersionPlaysSaid : Prop := versionPlaysRow.holds Try.pinned (OpenSpec.ofChange versionPlaysSpec)

/-- ITS FALSE NEIGHBOUR: 'it returns false'. Refute it at one input. -/
def versionPlaysWrong : ChangeSpec := { name := "versionPlays", fn := fun _ => fun
  | [d1, d2] => { results := [.lit (.bool false)], args := [d1, d2] }
  | _ => none }
def VersionPlaysWrongFalsely : Prop := versionPlaysRow.holds Try.pinned (OpenSpec.ofChange versionPlaysWrong)

/-- 'staddlelaw18.ScoreGrows': WHATEVER THE INPUT: true; the input reads as it did. -/
def scoreGrowsSpec : ChangeSpec := { name := "scoreGrows", fn := fun _ => fun
  | [d1, d2, d3] => { results := [.lit (.bool true)], args := [d1, d2, d3] }
  | _ => none }
def scoreGrowsRow : OpenClaim := { program := "ytjeanhaadbkncaa", sum := "d83bbda172f1a005af9bbc219ae82f154048ccc404e5e9d0e7d834b98bc57f43", func := "staddle/staddlelaw18.ScoreGrows", spec := "scoreGrows", inPlace := ["internal/bytealg.abigen_runtime_cmpstring", "slices.overlaps[staddle/api.File]"], unfollowed := true, recurses := true, apart := false }
def ScoreGrowsSaid : Prop := scoreGrowsRow.holds Try.pinned (OpenSpec.ofChange scoreGrowsSpec)

/-- ITS FALSE NEIGHBOUR: 'it returns false'. Refute it at one input. -/
def scoreGrowsWrong : ChangeSpec := { name := "scoreGrows", fn := fun _ => fun
  | [d1, d2, d3] => { results := [.lit (.bool false)], args := [d1, d2, d3] }
  | _ => none }
def ScoreGrowsWrongFalsely : Prop := scoreGrowsRow.holds Try.pinned (OpenSpec.ofChange scoreGrowsWrong)

/-- 'staddlelaw18.ScoreLeaves': WHATEVER THE INPUT: true; the input reads as it did. -/
def scoreLeavesSpec : ChangeSpec := { name := "scoreLeaves", fn := fun _ => fun
  | [d1, d2, d3] => { results := [.lit (.bool true)], args := [d1, d2, d3] }
  | _ => none }
def scoreLeavesRow : OpenClaim := { program := "ytjeanhaadbkncaa", sum := "d83bbda172f1a005af9bbc219ae82f154048ccc404e5e9d0e7d834b98bc57f43", func := "staddle/staddlelaw18.ScoreLeaves", spec := "scoreLeaves", inPlace := ["internal/bytealg.abigen_runtime_cmpstring", "slices.overlaps[staddle/api.File]"], unfollowed := true, recurses := true, apart := false }
def ScoreLeavesSaid : Prop := scoreLeavesRow.holds Try.pinned (OpenSpec.ofChange scoreLeavesSpec)

/-- ITS FALSE NEIGHBOUR: 'it returns false'. Refute it at one input. -/
def scoreLeavesWrong : ChangeSpec := { name := "scoreLeaves", fn := fun _ => fun
  | [d1, d2, d3] => { results := [.lit (.bool false)], args := [d1, d2, d3] }
  | _ => none }
def ScoreLeavesWrongFalsely : Prop := scoreLeavesRow.holds Try.pinned (OpenSpec.ofChange scoreLeavesWrong)

/-- 'staddlelaw14.VersionOrders': WHATEVER THE INPUT: true; the input reads as it did. -/
def versionOrdersSpec : ChangeSpec := { name := "versionOrders", fn := fun _ => fun
  | [d] => { results := [.lit (.bool true)], args := [d] }
  | _ => none }
def versionOrdersRow : OpenClaim := { program := "ytjeanhaadbkncaa", sum := "d83bbda172f1a005af9bbc219ae82f154048ccc404e5e9d0e7d834b98bc57f43", func := "staddle/staddlelaw14.VersionOrders", spec := "versionOrders", inPlace := ["internal/bytealg.abigen_runtime_cmpstring", "slices.overlaps[staddle/api.File]"], unfollowed := true, recurses := true, apart := false }
def VersionOrdersSaid : Prop := versionOrdersRow.holds Try.pinned (OpenSpec.ofChange versionOrdersSpec)

/-- ITS FALSE NEIGHBOUR: 'it returns false'. Refute it at one input. -/
def versionOrdersWrong : ChangeSpec := { name := "versionOrders", fn := fun _ => fun
  | [d] => { results := [.lit (.bool false)], args := [d] }
  | _ => none }
def VersionOrdersWrongFalsely : Prop := versionOrdersRow.holds Try.pinned (OpenSpec.ofChange versionOrdersWrong)

/-- 'staddlelaw14.VersionAsks': WHATEVER THE INPUT: true; the input reads as it did. -/
def versionAsksSpec : ChangeSpec := { name := "versionAsks", fn := fun _ => fun
  | [d1, d2, d3, d4] => { results := [.lit (.bool true)], args := [d1, d2, d3, d4] }
  | _ => none }
def versionAsksRow : OpenClaim := { program := "ytjeanhaadbkncaa", sum := "d83bbda172f1a005af9bbc219ae82f154048ccc404e5e9d0e7d834b98bc57f43", func := "staddle/staddlelaw14.VersionAsks", spec := "versionAsks", inPlace := ["internal/bytealg.abigen_runtime_cmpstring", "slices.overlaps[staddle/api.File]"], unfollowed := true, recurses := true, apart := false }
def VersionAsksSaid : Prop := versionAsksRow.holds Try.pinned (OpenSpec.ofChange versionAsksSpec)

/-- ITS FALSE NEIGHBOUR: 'it returns false'. Refute it at one input. -/
def versionAsksWrong : ChangeSpec := { name := "versionAsks", fn := fun _ => fun
  | [d1, d2, d3, d4] => { results := [.lit (.bool false)], args := [d1, d2, d3, d4] }
  | _ => none }
def VersionAsksWrongFalsely : Prop := versionAsksRow.holds Try.pinned (OpenSpec.ofChange versionAsksWrong)

/- THE SECOND FORM. 'bulk': how many values and letters a reading holds, each counted each time it is reached (what is shared counts as often as it is met; a slice's spare places count too). A statement '..UptoSaid' is the law's where the arguments, and the package variables that the reading takes, are together of bulk at most 1048576: NARROWER than '..Said'. Prove '..Said' where nothing that the law and all that it calls make is longer than what came in: it says more and counts as full. Else prove '..UptoSaid'. A law counts once. -/
mutual
def uptoBulk {H : Type} : DataW H → Nat
  | .lit (.string bytes) => bytes.length + 1
  | .lit _ => 1
  | .nil => 1
  | .ptr d => uptoBulk d + 1
  | .slice elems spare => uptoBulkAll elems + uptoBulkAll spare + 1
  | .agg parts => uptoBulkAll parts + 1
  | .iface _ d => uptoBulk d + 1
  | .map entries => uptoBulkEntries entries + 1
  | .held _ => 1
def uptoBulkAll {H : Type} : List (DataW H) → Nat
  | [] => 0
  | d :: r => uptoBulk d + uptoBulkAll r
def uptoBulkEntries {H : Type} : List (Lit × DataW H) → Nat
  | [] => 0
  | x :: r => uptoBulkEntry x + uptoBulkEntries r
def uptoBulkEntry {H : Type} : Lit × DataW H → Nat
  | (.string bytes, d) => bytes.length + uptoBulk d + 1
  | (_, d) => uptoBulk d + 1
 end
def uptoSmall : (H : Type) → List (DataW H) → Bool := fun _ ds => decide (uptoBulkAll ds ≤ 1048576)
def OpenSpec.upto (s : _root_.Go.ChangeSpec) : _root_.Go.OpenSpec := { _root_.Go.OpenSpec.ofChange s with cond := some uptoSmall }

/-- 'staddlelaw14.VersionNames', WHERE WHAT IT READS IS OF BULK AT MOST 1048576: true; the input reads as it did. -/
def versionNamesUptoRow : OpenClaim := { program := "ytjeanhaadbkncaa", sum := "d83bbda172f1a005af9bbc219ae82f154048ccc404e5e9d0e7d834b98bc57f43", func := "staddle/staddlelaw14.VersionNames", spec := "versionNames", inPlace := ["internal/bytealg.abigen_runtime_cmpstring", "slices.overlaps[staddle/api.File]"], unfollowed := true, recurses := true, apart := false, narrowed := true }
def VersionNamesUptoSaid : Prop := versionNamesUptoRow.holds Try.pinned (OpenSpec.upto versionNamesSpec)

/-- 'staddlelaw14.VersionPlays', WHERE WHAT IT READS IS OF BULK AT MOST 1048576: true; the input reads as it did. -/
def versionPlaysUptoRow : OpenClaim := { program := "ytjeanhaadbkncaa", sum := "d83bbda172f1a005af9bbc219ae82f154048ccc404e5e9d0e7d834b98bc57f43", func := "staddle/staddlelaw14.VersionPlays", spec := "versionPlays", inPlace := ["internal/bytealg.abigen_runtime_cmpstring", "slices.overlaps[staddle/api.File]"], unfollowed := true, recurses := true, apart := false, narrowed := true }
def VersionPlaysUptoSaid : Prop := versionPlaysUptoRow.holds Try.pinned (OpenSpec.upto versionPlaysSpec)

/-- 'staddlelaw18.ScoreGrows', WHERE WHAT IT READS IS OF BULK AT MOST 1048576: true; the input reads as it did. -/
def scoreGrowsUptoRow : OpenClaim := { program := "ytjeanhaadbkncaa", sum := "d83bbda172f1a005af9bbc219ae82f154048ccc404e5e9d0e7d834b98bc57f43", func := "staddle/staddlelaw18.ScoreGrows", spec := "scoreGrows", inPlace := ["internal/bytealg.abigen_runtime_cmpstring", "slices.overlaps[staddle/api.File]"], unfollowed := true, recurses := true, apart := false, narrowed := true }
def ScoreGrowsUptoSaid : Prop := scoreGrowsUptoRow.holds Try.pinned (OpenSpec.upto scoreGrowsSpec)

/-- 'staddlelaw18.ScoreLeaves', WHERE WHAT IT READS IS OF BULK AT MOST 1048576: true; the input reads as it did. -/
def scoreLeavesUptoRow : OpenClaim := { program := "ytjeanhaadbkncaa", sum := "d83bbda172f1a005af9bbc219ae82f154048ccc404e5e9d0e7d834b98bc57f43", func := "staddle/staddlelaw18.ScoreLeaves", spec := "scoreLeaves", inPlace := ["internal/bytealg.abigen_runtime_cmpstring", "slices.overlaps[staddle/api.File]"], unfollowed := true, recurses := true, apart := false, narrowed := true }
def ScoreLeavesUptoSaid : Prop := scoreLeavesUptoRow.holds Try.pinned (OpenSpec.upto scoreLeavesSpec)

/-- 'staddlelaw14.VersionOrders', WHERE WHAT IT READS IS OF BULK AT MOST 1048576: true; the input reads as it did. -/
def versionOrdersUptoRow : OpenClaim := { program := "ytjeanhaadbkncaa", sum := "d83bbda172f1a005af9bbc219ae82f154048ccc404e5e9d0e7d834b98bc57f43", func := "staddle/staddlelaw14.VersionOrders", spec := "versionOrders", inPlace := ["internal/bytealg.abigen_runtime_cmpstring", "slices.overlaps[staddle/api.File]"], unfollowed := true, recurses := true, apart := false, narrowed := true }
def VersionOrdersUptoSaid : Prop := versionOrdersUptoRow.holds Try.pinned (OpenSpec.upto versionOrdersSpec)

/-- 'staddlelaw14.VersionAsks', WHERE WHAT IT READS IS OF BULK AT MOST 1048576: true; the input reads as it did. -/
def versionAsksUptoRow : OpenClaim := { program := "ytjeanhaadbkncaa", sum := "d83bbda172f1a005af9bbc219ae82f154048ccc404e5e9d0e7d834b98bc57f43", func := "staddle/staddlelaw14.VersionAsks", spec := "versionAsks", inPlace := ["internal/bytealg.abigen_runtime_cmpstring", "slices.overlaps[staddle/api.File]"], unfollowed := true, recurses := true, apart := false, narrowed := true }
def VersionAsksUptoSaid : Prop := versionAsksUptoRow.holds Try.pinned (OpenSpec.upto versionAsksSpec)

end Rows
end Go.Proofs.Ytjeanhaadbkncaa
