/- LowerRuns: LowerRuns worked out. Conditions: none beyond the card's own. -/
import Derived.Test.YtobejienmopklaaGreatDoorL5
/- 'LowerRuns', worked out. -/
namespace Go.Proofs.YtobejienmopklaaGreatDoor.Ev
theorem lr_run : isTrue (callAt lrC 3 []) = true := by kernel_rfl
end Go.Proofs.YtobejienmopklaaGreatDoor.Ev
