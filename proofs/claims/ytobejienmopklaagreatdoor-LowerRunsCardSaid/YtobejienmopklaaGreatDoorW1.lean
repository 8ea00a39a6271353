/- LowerRuns: a start for the witness. Conditions: none beyond the card's own. -/
import Derived.Test.YtobejienmopklaaGreatDoorV1
import Derived.LaidMore
import Derived.LaidLaws
/- A start for the witness. -/
namespace Go.Proofs.YtobejienmopklaaGreatDoor.Ev
open Go.Proofs.YtobejienmopklaaGreatDoor
theorem doorHeap (P : Program) (n : Nat) (os : Os) (t : Tape) : (varsWorld P n (varsId P) os (fun _ _ => 0)).memory.heap = ((World.doorLaid P n os).forCall t ⟨#[], #[], []⟩).memory.heap := by
  unfold World.forCall World.memory
  simp only
  rw [Input.heap_fresh rfl]
  unfold World.doorLaid
  simp
noncomputable abbrev door0 (os : Os) : World := (World.doorLaid Proofs.Tryz.prog 400 os).forCall (fun _ _ => 0) ⟨#[], #[], []⟩
theorem w3 : ∀ os, Input.okWideB Proofs.Tryz.prog (door0 os) 3 ⟨#[], #[], []⟩ = true := fun _ => by kernel_rfl
end Go.Proofs.YtobejienmopklaaGreatDoor.Ev
