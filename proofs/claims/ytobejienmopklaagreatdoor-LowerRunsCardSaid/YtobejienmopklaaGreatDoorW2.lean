/- LowerRuns: the start is shaped. Conditions: none beyond the card's own. -/
import Derived.Test.YtobejienmopklaaGreatDoorW1
/- The witness's start is shaped. -/
namespace Go.Proofs.YtobejienmopklaaGreatDoor.Ev
theorem w1 : ∀ os, (door0 os).variablesRefB Proofs.Tryz.prog = true := fun _ => by kernel_rfl
end Go.Proofs.YtobejienmopklaaGreatDoor.Ev
