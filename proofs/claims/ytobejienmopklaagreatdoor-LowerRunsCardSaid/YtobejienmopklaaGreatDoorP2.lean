/- LowerRuns: the row holds. Conditions: none beyond the card's own. -/
import Derived.Test.YtobejienmopklaaGreatDoorP1
import Derived.Test.YtobejienmopklaaGreatDoorF2
/- The row of 'LowerRuns'. -/
namespace Go.Proofs.YtobejienmopklaaGreatDoor
open Go.ChangeShapes Go.WideShapes Go.RowKit
open Go.Proofs.YtobejienmopklaaGreatDoor.Ev
theorem lowerRuns_holds : Rows.LowerRunsSaid :=
  OpenClaim.holds_of_wide 3 Tryz.f3 rfl rfl rfl rfl rfl rfl rfl ⟨rfl, rfl, rfl, rfl, rfl⟩ rfl rfl rfl rfl rfl (by kernel_rfl) (by kernel_rfl) jfAll
    (of_decide_eq_true (by kernel_rfl)) (by unfold Func.isWrapper; rw [if_neg (of_decide_eq_false (by kernel_rfl))]; exact ⟨rfl, rfl⟩)
    (fun os started H enc _ => lowerRuns_lifted os started H enc)

theorem lrTie : Tryz.prog.laidByTextLater lrLaid [.data, .data, .data, .data, .listed, .sentinel, .sentinel] true :=
  Program.laidByTextLater_by_run 400 8 q0 q1 q2 q3 q4 q5 q6 q7 q8
theorem lrRowTie : Rows.lowerRunsRow.laidByTextAt .later Tryz.pinned [.data, .data, .data, .data, .listed, .sentinel, .sentinel] true :=
  OpenClaim.laidByTextAt_later rfl rfl lrTie (by kernel_rfl)
end Go.Proofs.YtobejienmopklaaGreatDoor
