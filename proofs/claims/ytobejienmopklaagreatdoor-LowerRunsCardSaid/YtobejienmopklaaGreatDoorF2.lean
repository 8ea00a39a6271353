/- LowerRuns: closed facts of the row. Conditions: none beyond the card's own. -/
import Derived.Test.YtobejienmopklaaGreatDoorF1
/- Closed facts of the row, together. -/
namespace Go.Proofs.YtobejienmopklaaGreatDoor
theorem jfAll : joinedFacts Tryz.prog 3 Tryz.f3 Rows.lowerRunsSpec Rows.lowerRunsRow = true := by
  unfold joinedFacts
  simp only [jf1, jf2, jf3, jf4, jf5, jf6, jf7, Bool.true_and, Bool.and_true]
  kernel_rfl
end Go.Proofs.YtobejienmopklaaGreatDoor
