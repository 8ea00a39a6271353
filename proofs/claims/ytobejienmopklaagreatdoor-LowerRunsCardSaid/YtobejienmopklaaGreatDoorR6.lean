/- LowerRuns: LowerRuns worked out. Conditions: none beyond the card's own. -/
import Derived.Test.YtobejienmopklaaGreatDoorL2
/- 'LowerRuns', worked out. -/
namespace Go.Proofs.YtobejienmopklaaGreatDoor.Ev
theorem lr_run : isTrue (callAt lrB 3 []) = true := by kernel_rfl
end Go.Proofs.YtobejienmopklaaGreatDoor.Ev
