/- LowerRuns: closed facts of the card. Conditions: none beyond the card's own. -/
import Derived.Test.YtobejienmopklaaGreatDoorRows
import Derived.SevenTiedAt
/- Closed facts of the card. -/
namespace Go.Proofs.YtobejienmopklaaGreatDoor
theorem cf1 : Rows.lowerRunsRow.wfByText (OpenSpec.ofChange Rows.lowerRunsSpec) = true := by kernel_rfl
theorem cf2 : Tryz.prog.mainIs = some (true, "b423a77bdaf1362422fefa21cf82e5fc0ead1daeffec4c9b99c36ac9d12bf789".toList) := by kernel_rfl
theorem cf3 : Tryz.prog.funcNamed "coil/coillaw13.LowerRuns" = some 3 := by kernel_rfl
theorem cf4 : Tryz.prog.funcs[3]? = some Tryz.f3 := by kernel_rfl
theorem cf5 : true = Tryz.prog.looks [] := by kernel_rfl
theorem cf6 : false = Rows.lowerRunsRow.goesBy Tryz.prog := by kernel_rfl
theorem cf7 : Tryz.f3.params = #[] := by kernel_rfl
end Go.Proofs.YtobejienmopklaaGreatDoor
