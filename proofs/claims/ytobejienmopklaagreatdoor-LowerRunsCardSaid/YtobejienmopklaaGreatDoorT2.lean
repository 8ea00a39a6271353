/- LowerRuns: closed facts of the tie. Conditions: none beyond the card's own. -/
import Derived.Test.YtobejienmopklaaGreatDoorV1
import Derived.LaidByTextLater
/- Closed facts of the tie: what is laid. -/
namespace Go.Proofs.YtobejienmopklaaGreatDoor.Ev
open Go.Proofs.YtobejienmopklaaGreatDoor
theorem q7 : ∀ os tape, (DataW.laidRun Proofs.Tryz.prog (varsWorld Proofs.Tryz.prog 400 (varsId Proofs.Tryz.prog) os tape).memory 8 (lrLaid.map (·.1))).map (·.1) = some lrLaid := fun _ _ => by kernel_rfl
end Go.Proofs.YtobejienmopklaaGreatDoor.Ev
