/- LowerRuns: one call worked out. Conditions: none beyond the card's own. -/
import Derived.Test.YtobejienmopklaaGreatDoorL2
/- A call worked out. -/
namespace Go.Proofs.YtobejienmopklaaGreatDoor.Ev
theorem r329_1 : gives (callAt lr 329 tArgs329_1) tRes329_1 = true := by kernel_rfl
theorem a329_1 : tArgs329_1.all (fun a => !refy 100000 a) = true := by kernel_rfl
end Go.Proofs.YtobejienmopklaaGreatDoor.Ev
