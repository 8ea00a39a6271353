/- LowerRuns: the row, lifted. Conditions: none beyond the card's own. -/
import Derived.Test.YtobejienmopklaaGreatDoorL4
import Derived.Test.YtobejienmopklaaGreatDoorT1
import Derived.Test.YtobejienmopklaaGreatDoorT2
import Derived.Test.YtobejienmopklaaGreatDoorT3
import Derived.Test.YtobejienmopklaaGreatDoorW2
import Derived.Test.YtobejienmopklaaGreatDoorW3
import Derived.ChangeSame
import Derived.ChangeVars
import Derived.JoinedOf
import Derived.RowKit
import Derived.RowKitTokens
import Derived.SevenTiedAt
/- The row of 'LowerRuns' and its card: whatever the input, it returns true. -/
namespace Go.Proofs.YtobejienmopklaaGreatDoor
open Go.ChangeShapes Go.WideShapes Go.RowKit Go.Proofs.YtobejienmopklaaGreatDoor.Ev

theorem door_met (os : Os) : laidMetH Tryz.prog lrLaid ((World.doorLaid Tryz.prog 400 os).forCall (fun _ _ => 0) ⟨#[], #[], []⟩).memory := by
  refine laidMetH.of_heap (doorHeap Tryz.prog 400 os (fun _ _ => 0)) ?_
  rw [plainLaid]
  exact laidMet_of_run' 8 (q7 os _) (q8 os _)

theorem kept_of {W W' : World} (h1 : W'.os = W.os) (h2 : W'.output = W.output) (h3 : ∀ b, b < W.heap.size → W'.heap[b]? = W.heap[b]?) (p : MemPlace → Prop) : W.keptBut W' p := by
  refine ⟨h1, h2, fun i hi => ?_⟩
  rw [h3 i hi]
  cases hg : W.heap[i]? with
  | none => trivial
  | some o => cases o <;> simp

set_option maxRecDepth 100000 in
theorem lowerRuns_lifted (os : Os) (started : os.Started) (H : Type) (enc : TypeId × Value → H) :
    ReturnsInHanded {} Tryz.checked os 3 .any (fun w args => (Rows.lowerRunsSpec.pre enc Tryz.prog Tryz.f3 [] false w args ∧ laidMetH Tryz.prog lrLaid w) ∧ sizedMet enc Tryz.prog Tryz.f3 (OpenSpec.ofChange Rows.lowerRunsSpec) false w args)
      (Rows.lowerRunsSpec.post enc Tryz.prog Tryz.f3 false true false false) := by
  refine returnsInHanded_of_change_and (C := Tryz.checked) (X := fun w _ => laidMetH Tryz.prog lrLaid w) (fun _ _ _ hh h => h.of_heap hh) (by kernel_rfl) started (by kernel_rfl) (by kernel_rfl)
    (ChangeSpec.witness_shaped (enc := enc) (C := Tryz.checked) (os := os) (X := fun w _ => laidMetH Tryz.prog lrLaid w) false (World.doorLaid Tryz.prog 400 os) #[] 8 rfl (World.shaped_of_RefB (w1 os) (w2 os)) (w3 os) (by kernel_rfl) (by kernel_rfl) (door_met os)) ?_
  intro W base args ds gs before hval0 hW _ _ hL _
  have hW' := hW
  obtain ⟨p, q, hA0, hV0, rfl, hfz, hnd⟩ := hW
  have hp : Tryz.f3.params.toList = [] := by kernel_rfl
  have hr : Tryz.f3.resultTypes = #[4] := by kernel_rfl
  have hA : DataW.TrodAll enc Tryz.prog W 0 (fun _ => true) true Tryz.f3.params.toList args.toList ds p := hA0
  have hV : DataW.TrodVars enc Tryz.prog W (fun _ => true) [] gs q := hV0
  rw [hp] at hA
  obtain ⟨rfl, rfl, rfl⟩ : args = #[] ∧ ds = [] ∧ p = [] := by
    obtain ⟨l⟩ := args
    cases l with
    | cons v l => exact hA.elim
    | nil =>
      cases ds with
      | cons d ds => exact hA.elim
      | nil => exact ⟨rfl, rfl, hA⟩
  obtain ⟨rfl, rfl⟩ : gs = [] ∧ q = [] := by
    cases gs with
    | nil => exact ⟨rfl, hV⟩
    | cons g r => exact hV.elim
  have e1 : Rows.lowerRunsSpec.fn H ([] ++ []) = { results := [.lit (.bool true)], args := [] } := rfl
  refine (lr_calls hL).mono fun e W' ⟨he, h1, h2, h3⟩ => ?_
  subst he
  refine ⟨_, rfl, _, _, _, [], [], [], hW', ?_, ?_, ?_, kept_of h1 h2 h3 _, fun h => by cases h⟩
  · rw [e1, hr]; exact trodAll_mk1 (shut_bool (by kernel_rfl) true)
  · rw [e1, hp]; rfl
  · rw [e1]; rfl

end Go.Proofs.YtobejienmopklaaGreatDoor
