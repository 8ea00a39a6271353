/- LowerRuns: closed facts of the tie. Conditions: none beyond the card's own. -/
import Derived.Test.YtobejienmopklaaGreatDoorV1
import Derived.LaidByTextLater
/- Closed facts of the tie: the places are apart. -/
namespace Go.Proofs.YtobejienmopklaaGreatDoor.Ev
open Go.Proofs.YtobejienmopklaaGreatDoor
theorem q8 : ∀ os tape, (DataW.laidRun Proofs.Tryz.prog (varsWorld Proofs.Tryz.prog 400 (varsId Proofs.Tryz.prog) os tape).memory 8 (lrLaid.map (·.1))).map (fun x => decide x.2.Nodup && laidRowsB Proofs.Tryz.prog (varsWorld Proofs.Tryz.prog 400 (varsId Proofs.Tryz.prog) os tape).memory x.2) = some true := fun _ _ => by kernel_rfl
end Go.Proofs.YtobejienmopklaaGreatDoor.Ev
