/- LowerRuns: the tied card of LowerRuns holds: the law returns true, its listed package-level variables being as the program's text lays them. Conditions: none beyond the card's own. -/
import Derived.Test.YtobejienmopklaaGreatDoorP2
import Derived.Test.YtobejienmopklaaGreatDoorF3
import Derived.Test.YtobejienmopklaaGreatDoorCards
/- The card of 'LowerRuns'. -/
namespace Go.Proofs.YtobejienmopklaaGreatDoor
open Go
theorem lowerRuns_card_holds : Rows.LowerRunsCardSaid :=
  Claim7.holds_tied_plain_at .later [] [.data, .data, .data, .data, .listed, .sentinel, .sentinel] true (true, "b423a77bdaf1362422fefa21cf82e5fc0ead1daeffec4c9b99c36ac9d12bf789") true
    lowerRuns_holds (fun _ h => by cases h) cf1 (fun _ h => by cases h) lrRowTie rfl ⟨rfl, rfl⟩ cf2 rfl
    (fun f fn hf hfn => by
      obtain rfl : f = 3 := (Option.some.inj (cf3.symm.trans hf)).symm
      obtain rfl : fn = Tryz.f3 := (Option.some.inj (cf4.symm.trans hfn)).symm
      exact ⟨cf5, fun j t ht => by
        rw [cf7] at ht
        simp at ht⟩)
    cf6
end Go.Proofs.YtobejienmopklaaGreatDoor
