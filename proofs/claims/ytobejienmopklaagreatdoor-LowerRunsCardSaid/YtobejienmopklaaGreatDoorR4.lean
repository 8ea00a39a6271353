/- LowerRuns: one call worked out. Conditions: none beyond the card's own. -/
import Derived.Test.YtobejienmopklaaGreatDoorL2
/- A call worked out. -/
namespace Go.Proofs.YtobejienmopklaaGreatDoor.Ev
theorem r50_1 : gives (callAt lrA 50 tArgs50_1) tRes50_1 = true := by kernel_rfl
theorem a50_1 : tArgs50_1.all (fun a => !refy 100000 a) = true := by kernel_rfl
end Go.Proofs.YtobejienmopklaaGreatDoor.Ev
