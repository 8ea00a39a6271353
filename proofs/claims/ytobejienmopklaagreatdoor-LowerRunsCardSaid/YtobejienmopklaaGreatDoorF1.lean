/- LowerRuns: closed facts of the row. Conditions: none beyond the card's own. -/
import Derived.Test.YtobejienmopklaaGreatDoorRows
import Derived.JoinedOf
/- Closed facts of the row. -/
namespace Go.Proofs.YtobejienmopklaaGreatDoor

theorem jf1 : (Rows.lowerRunsRow.inPlace == Tryz.prog.inPlace 3) = true := by kernel_rfl
theorem jf2 : (Rows.lowerRunsRow.unfollowed == Tryz.prog.unfollowed 3) = true := by kernel_rfl
theorem jf3 : (Rows.lowerRunsRow.recurses == Tryz.prog.recurses 3) = true := by kernel_rfl
theorem jf4 : (Rows.lowerRunsRow.named == Tryz.prog.varsNamed 3) = true := by kernel_rfl
theorem jf5 : laidOutB Tryz.prog = true := by kernel_rfl
theorem jf6 : mapsRowed Tryz.prog = true := by kernel_rfl
theorem jf7 : Rows.lowerRunsRow.wf (OpenSpec.ofChange Rows.lowerRunsSpec) = true := by kernel_rfl
end Go.Proofs.YtobejienmopklaaGreatDoor
