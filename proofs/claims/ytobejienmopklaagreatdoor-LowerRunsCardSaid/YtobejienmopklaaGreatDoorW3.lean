/- LowerRuns: the start is shaped. Conditions: none beyond the card's own. -/
import Derived.Test.YtobejienmopklaaGreatDoorW1
/- The witness's start is shaped, behind the variables. -/
namespace Go.Proofs.YtobejienmopklaaGreatDoor.Ev
theorem w2 : ∀ os, ((door0 os).heap.toList.drop Proofs.Tryz.prog.globals.size).take ((begin Proofs.Tryz.prog (fun _ _ => 0) default).world.heap.size - Proofs.Tryz.prog.globals.size) =
      (begin Proofs.Tryz.prog (fun _ _ => 0) default).world.heap.toList.drop Proofs.Tryz.prog.globals.size := fun _ => by kernel_rfl
end Go.Proofs.YtobejienmopklaaGreatDoor.Ev
