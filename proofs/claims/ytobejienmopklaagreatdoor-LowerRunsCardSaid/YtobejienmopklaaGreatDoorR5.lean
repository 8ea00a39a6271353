/- LowerRuns: one call worked out. Conditions: none beyond the card's own. -/
import Derived.Test.YtobejienmopklaaGreatDoorL2
/- A call worked out. -/
namespace Go.Proofs.YtobejienmopklaaGreatDoor.Ev
theorem r50_2 : gives (callAt lrA 50 tArgs50_2) tRes50_2 = true := by kernel_rfl
theorem a50_2 : tArgs50_2.all (fun a => !refy 100000 a) = true := by kernel_rfl
end Go.Proofs.YtobejienmopklaaGreatDoor.Ev
