/- LowerRuns: the orders are sound. Conditions: none beyond the card's own. -/
import Derived.Test.YtobejienmopklaaGreatDoorL2
/- The table of the regions whose order is drawn is sound for every function. -/
namespace Go.Proofs.YtobejienmopklaaGreatDoor.Ev
noncomputable def lrReg (f : FuncId) : Option Func → Bool
  | some fn => (match fn.body with | some b => regsB lr0 f b | none => true)
  | none => true
noncomputable def lrAll (F : Array Func) (n : Nat) : Bool := (List.range n).all fun f => lrReg f F[f]?
theorem lrAll_get {F : Array Func} {n : Nat} (h : lrAll F n = true) : ∀ x, x < n → lrReg x F[x]? = true := fun x hx => List.all_eq_true.1 h x (List.mem_range.2 hx)
theorem lr_all : lrAll Go.Proofs.Tryz.prog.funcs 426 = true := by kernel_rfl
theorem lr_regs (f : FuncId) (fn : Func) (body : Code) (h : Go.Proofs.Tryz.prog.funcs[f]? = some fn) (hb : fn.body = some body) : regsB lr0 f body = true := by
  have hf : f < 426 := by rw [← lr_size]; exact (Array.getElem?_eq_some_iff.1 h).1
  have h2 := lrAll_get lr_all f hf
  rw [h] at h2
  have h3 : (match fn.body with | some b => regsB lr0 f b | none => true) = true := h2
  rw [hb] at h3
  exact h3
end Go.Proofs.YtobejienmopklaaGreatDoor.Ev
