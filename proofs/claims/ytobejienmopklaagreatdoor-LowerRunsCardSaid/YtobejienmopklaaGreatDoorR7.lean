/- LowerRuns: calls worked out. Conditions: none beyond the card's own. -/
import Derived.Test.YtobejienmopklaaGreatDoorL5
/- Calls worked out. -/
namespace Go.Proofs.YtobejienmopklaaGreatDoor.Ev
theorem r136_1 : gives (callAt lrA 136 tArgs136_1) tRes136_1 = true := by kernel_rfl
theorem a136_1 : tArgs136_1.all (fun a => !refy 100000 a) = true := by kernel_rfl
theorem r136_2 : gives (callAt lrA 136 tArgs136_2) tRes136_2 = true := by kernel_rfl
theorem a136_2 : tArgs136_2.all (fun a => !refy 100000 a) = true := by kernel_rfl
theorem r136_3 : gives (callAt lrA 136 tArgs136_3) tRes136_3 = true := by kernel_rfl
theorem a136_3 : tArgs136_3.all (fun a => !refy 100000 a) = true := by kernel_rfl
theorem r136_4 : gives (callAt lrA 136 tArgs136_4) tRes136_4 = true := by kernel_rfl
theorem a136_4 : tArgs136_4.all (fun a => !refy 100000 a) = true := by kernel_rfl
theorem r136_5 : gives (callAt lrA 136 tArgs136_5) tRes136_5 = true := by kernel_rfl
theorem a136_5 : tArgs136_5.all (fun a => !refy 100000 a) = true := by kernel_rfl
theorem r136_6 : gives (callAt lrA 136 tArgs136_6) tRes136_6 = true := by kernel_rfl
theorem a136_6 : tArgs136_6.all (fun a => !refy 100000 a) = true := by kernel_rfl
theorem r136_7 : gives (callAt lrA 136 tArgs136_7) tRes136_7 = true := by kernel_rfl
theorem a136_7 : tArgs136_7.all (fun a => !refy 100000 a) = true := by kernel_rfl
theorem r136_8 : gives (callAt lrA 136 tArgs136_8) tRes136_8 = true := by kernel_rfl
theorem a136_8 : tArgs136_8.all (fun a => !refy 100000 a) = true := by kernel_rfl
theorem r138_1 : gives (callAt lrA 138 tArgs138_1) tRes138_1 = true := by kernel_rfl
theorem a138_1 : tArgs138_1.all (fun a => !refy 100000 a) = true := by kernel_rfl
end Go.Proofs.YtobejienmopklaaGreatDoor.Ev
