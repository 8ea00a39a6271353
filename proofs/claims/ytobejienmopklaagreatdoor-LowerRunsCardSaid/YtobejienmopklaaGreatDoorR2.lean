/- LowerRuns: one call worked out. Conditions: none beyond the card's own. -/
import Derived.Test.YtobejienmopklaaGreatDoorL2
/- A call worked out. -/
namespace Go.Proofs.YtobejienmopklaaGreatDoor.Ev
theorem r19_1 : gives (callAt lrA 19 tArgs19_1) tRes19_1 = true := by kernel_rfl
theorem a19_1 : tArgs19_1.all (fun a => !refy 100000 a) = true := by kernel_rfl
end Go.Proofs.YtobejienmopklaaGreatDoor.Ev
