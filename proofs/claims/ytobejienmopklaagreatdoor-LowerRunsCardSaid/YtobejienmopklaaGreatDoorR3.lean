/- LowerRuns: one call worked out. Conditions: none beyond the card's own. -/
import Derived.Test.YtobejienmopklaaGreatDoorL2
/- A call worked out. -/
namespace Go.Proofs.YtobejienmopklaaGreatDoor.Ev
theorem r19_2 : gives (callAt lrA 19 tArgs19_2) tRes19_2 = true := by kernel_rfl
theorem a19_2 : tArgs19_2.all (fun a => !refy 100000 a) = true := by kernel_rfl
end Go.Proofs.YtobejienmopklaaGreatDoor.Ev
