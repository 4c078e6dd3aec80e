/- 'VersionNames' is true: the law returns true; no condition. -/
import Derived.Test.YtjeanhaadbkncaaRows
import Derived.Test.YtjeanhaadbkncaaAwake14
import Derived.ProofKit
import Derived.OpenShut
namespace Go.Proofs.Ytjeanhaadbkncaa
open Go.RowKit

theorem names14_any (w : World) : Calls Try.prog 3 #[] w fun e w' => e = .returned (.bool true) ∧ Below w.heap.size w w' := by
  go_enter Try.func3, Try.ntmps3
  go_wp2_with (go_at_call 9; refine (awake14_any _).mono ?_; rintro e w1 ⟨rfl, hb1⟩)
  go_ret
  exact ⟨rfl, hb1⟩

end Go.Proofs.Ytjeanhaadbkncaa
