/- LowerRuns: closed facts of the tie. Conditions: none beyond the card's own. -/
import Derived.Test.YtobejienmopklaaGreatDoorV1
import Derived.LaidByTextLater
/- Closed facts of the tie. -/
namespace Go.Proofs.YtobejienmopklaaGreatDoor.Ev
open Go.Proofs.YtobejienmopklaaGreatDoor
theorem q0 : Proofs.Tryz.prog.worded (varsWordLater true) = true := by kernel_rfl
theorem q1 : Proofs.Tryz.prog.worded (varsWordLater !true) = false := by kernel_rfl
theorem q2 : Proofs.Tryz.prog.worded rootWordLater = true := by kernel_rfl
theorem q4 : (Proofs.Tryz.prog.funcNamed "gosem.cut.vars").isSome = true := by kernel_rfl
theorem q3 : lrLaid.map (fun x => Proofs.Tryz.prog.kindOfLater x.1) = [.data, .data, .data, .data, .listed, .sentinel, .sentinel].map some := by kernel_rfl
theorem q5 : varsNamedLaterB Proofs.Tryz.prog (varsId Proofs.Tryz.prog) lrLaid = true := by kernel_rfl
theorem q6 : ∀ os tape, varsDone Proofs.Tryz.prog 400 (varsId Proofs.Tryz.prog) os tape = true := fun _ _ => by kernel_rfl
end Go.Proofs.YtobejienmopklaaGreatDoor.Ev
