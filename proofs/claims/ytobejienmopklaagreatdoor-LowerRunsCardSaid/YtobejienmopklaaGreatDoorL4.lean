/- LowerRuns: LowerRuns returns true. Conditions: none beyond the card's own. -/
import Derived.Test.YtobejienmopklaaGreatDoorL3
import Derived.Test.YtobejienmopklaaGreatDoorV1
import Derived.Test.YtobejienmopklaaGreatDoorL2
import Derived.Test.YtobejienmopklaaGreatDoorR1
import Derived.Test.YtobejienmopklaaGreatDoorR2
import Derived.Test.YtobejienmopklaaGreatDoorR3
import Derived.Test.YtobejienmopklaaGreatDoorR4
import Derived.Test.YtobejienmopklaaGreatDoorR5
import Derived.Test.YtobejienmopklaaGreatDoorR7
import Derived.Test.YtobejienmopklaaGreatDoorR6
/- 'LowerRuns' returns true and changes nothing, where the laid variables hold what the text lays. -/
namespace Go.Proofs.YtobejienmopklaaGreatDoor.Ev
set_option linter.unusedVariables false
set_option linter.unnecessarySimpa false

theorem CallAt.cfg {C C' : Cfg} {f : FuncId} {g : List AV → Heap → Nat → Option R} (h : CallAt C f g) (hP : C.P = C'.P) (hg : C.glob = C'.glob) : CallAt C' f g := by
  cases C; cases C'
  simp only at hP hg
  subst hP; subst hg
  exact h
theorem CallOK.cfg {C C' : Cfg} {call : CallF} (h : CallOK C call) (hP : C.P = C'.P) (hg : C.glob = C'.glob) : CallOK C' call := fun f => (h f).cfg hP hg
theorem PrimOK.cfg {C C' : Cfg} (h : PrimOK C) (hP : C.P = C'.P) (hp : C.prim = C'.prim) : PrimOK C' := by
  cases C; cases C'
  simp only at hP hp
  subst hP; subst hp
  exact h
theorem GlobOK.cfg {C C' : Cfg} {ρ : Rho} {H : Heap} {w : World} (h : GlobOK C ρ H w) (hg : C.glob = C'.glob) : GlobOK C' ρ H w := by
  unfold GlobOK at h ⊢
  rw [← hg]; exact h
theorem lr_prim : PrimOK lr0 := by
  intro fid g hg ρ H w args vals v hl ha hv
  have hg' : cnd (Nat.beq fid 215) (some fun args => match args with | [x] => some x | _ => none) none = some g := hg
  obtain ⟨h1, h2⟩ := cnd_some.1 hg'
  obtain rfl := Nat.eq_of_beq_eq_true h1
  cases h2
  match args, vals, hl, hv with
  | [x], [u], _, hv =>
    simp only [Option.some.injEq] at hv
    subst hv
    refine ⟨u, ?_, ha 0 x u rfl rfl⟩
    show (callFunc 215 #[u]).run Proofs.Tryz.prog w = _
    rw [run_callFunc_extern (fn := Proofs.Tryz.f215) (by kernel_rfl) (by kernel_rfl) (by kernel_rfl) (by kernel_rfl) (e := Extern.AbiNoEscape.same) (by kernel_rfl), Lib.run_noEscape]
    rfl
theorem lr_soundOf {C : Cfg} (hP : lr0.P = C.P) (hg : lr0.glob = C.glob) (hp : lr0.prim = C.prim) (hd : C.draw = lr0.draw) (hext : ∀ f g, C.ext f = some g → ∀ call, CallOK C call → CallAt C f (g call)) : CallOK C (M.call (ev C fuel0)) := by
  have e : lr0.P = Proofs.Tryz.prog := rfl
  refine sound (lr_prim.cfg hP hp) (by rw [← hP, e]; exact lr_mix) (fun f fn h => lr_name f fn (by rw [← hP, e] at h; exact h)) hext (fun f fn b h1 h2 => ?_) fuel0
  rw [regsB_draw hd]; exact lr_regs f fn b (by rw [← hP, e] at h1; exact h1) h2
theorem lr_ext {f : FuncId} {g : CallF → List AV → Heap → Nat → Option R} (hg : lr.ext f = some g) {call : CallF} (hc : CallOK lr0 call) : CallAt lr0 f (g call) := by
  have hg' : cnd (Nat.beq f 20) (some (dfrF lr0 20)) none = some g := hg
  obtain ⟨h1, h2⟩ := cnd_some.1 hg'
  obtain rfl := Nat.eq_of_beq_eq_true h1
  rw [← Option.some.inj h2]
  have e : lr0.P = Proofs.Tryz.prog := rfl
  exact dfr_ok lr_prim (by rw [e]; exact lr_mix) (fun f fn h => lr_name f fn (by rw [e] at h; exact h)) (fun f fn b h1 h2 => lr_regs f fn b (by rw [e] at h1; exact h1) h2) hc 20
theorem lr_sound : CallOK lr (M.call (ev lr fuel0)) := lr_soundOf rfl rfl rfl rfl fun f g hg call hc => (lr_ext hg (hc.cfg (C' := lr0) rfl rfl)).cfg rfl rfl
theorem lrA_ext {f : FuncId} {g : CallF → List AV → Heap → Nat → Option R} (hg : lrA.ext f = some g) {call : CallF} (hc : CallOK lr0 call) : CallAt lr0 f (g call) := by
  have hg' : cnd (Nat.beq f 329) (some fun _ => tabAt tArgs329_1 tRes329_1) (lr.ext f) = some g := hg
  rw [cnd_eq] at hg'
  split at hg'
  · rename_i h1
    obtain rfl := Nat.eq_of_beq_eq_true h1
    cases hg'
    exact (gives_ok r329_1 lr_sound a329_1).cfg rfl rfl
  · exact lr_ext hg' hc
theorem lrA_sound : CallOK lrA (M.call (ev lrA fuel0)) := lr_soundOf rfl rfl rfl rfl fun f g hg call hc => (lrA_ext hg (hc.cfg (C' := lr0) rfl rfl)).cfg rfl rfl
theorem lrB_ext {f : FuncId} {g : CallF → List AV → Heap → Nat → Option R} (hg : lrB.ext f = some g) {call : CallF} (hc : CallOK lr0 call) : CallAt lr0 f (g call) := by
  have hg' : cnd (Nat.beq f 19) (some fun _ => orR (tabAt tArgs19_1 tRes19_1) (tabAt tArgs19_2 tRes19_2))
    (cnd (Nat.beq f 50) (some fun _ => orR (tabAt tArgs50_1 tRes50_1) (tabAt tArgs50_2 tRes50_2)) (lrA.ext f)) = some g := hg
  rw [cnd_eq] at hg'
  split at hg'
  · rename_i h1
    obtain rfl := Nat.eq_of_beq_eq_true h1
    cases hg'
    exact or_ok ((gives_ok r19_1 lrA_sound a19_1).cfg rfl rfl) ((gives_ok r19_2 lrA_sound a19_2).cfg rfl rfl)
  · rw [cnd_eq] at hg'
    split at hg'
    · rename_i h1
      obtain rfl := Nat.eq_of_beq_eq_true h1
      cases hg'
      exact or_ok ((gives_ok r50_1 lrA_sound a50_1).cfg rfl rfl) ((gives_ok r50_2 lrA_sound a50_2).cfg rfl rfl)
    · exact lrA_ext hg' hc
theorem lrB_sound : CallOK lrB (M.call (ev lrB fuel0)) := lr_soundOf rfl rfl rfl rfl fun f g hg call hc => (lrB_ext hg (hc.cfg (C' := lr0) rfl rfl)).cfg rfl rfl

theorem tab136_ok : CallAt lr0 136 tab136 := (or_ok ((gives_ok r136_1 lrA_sound a136_1).cfg rfl rfl) (or_ok ((gives_ok r136_2 lrA_sound a136_2).cfg rfl rfl) (or_ok ((gives_ok r136_3 lrA_sound a136_3).cfg rfl rfl) (or_ok ((gives_ok r136_4 lrA_sound a136_4).cfg rfl rfl) (or_ok ((gives_ok r136_5 lrA_sound a136_5).cfg rfl rfl) (or_ok ((gives_ok r136_6 lrA_sound a136_6).cfg rfl rfl) (or_ok ((gives_ok r136_7 lrA_sound a136_7).cfg rfl rfl) ((gives_ok r136_8 lrA_sound a136_8).cfg rfl rfl))))))))
theorem lrC_ext {f : FuncId} {g : CallF → List AV → Heap → Nat → Option R} (hg : lrC.ext f = some g) {call : CallF} (hc : CallOK lr0 call) : CallAt lr0 f (g call) := by
  have hg' : cnd (Nat.beq f 136) (some fun _ => tab136) (cnd (Nat.beq f 138) (some fun _ => tabAt tArgs138_1 tRes138_1) (lrB.ext f)) = some g := hg
  rw [cnd_eq] at hg'
  split at hg'
  · rename_i h1
    obtain rfl := Nat.eq_of_beq_eq_true h1
    cases hg'
    exact tab136_ok
  · rw [cnd_eq] at hg'
    split at hg'
    · rename_i h1
      obtain rfl := Nat.eq_of_beq_eq_true h1
      cases hg'
      exact (gives_ok r138_1 lrA_sound a138_1).cfg rfl rfl
    · exact lrB_ext hg' hc
theorem lrC_sound : CallOK lrC (M.call (ev lrC fuel0)) := lr_soundOf rfl rfl rfl rfl fun f g hg call hc => (lrC_ext hg (hc.cfg (C' := lr0) rfl rfl)).cfg rfl rfl

/-- 'LowerRuns' returns true; what was there before is as it was. -/
theorem lr_calls {W : World} (h : laidMetH Proofs.Tryz.prog lrLaid W) : Calls Proofs.Tryz.prog 3 #[] W fun e W' => e = .returned (.bool true) ∧ W'.os = W.os ∧ W'.output = W.output ∧ ∀ b, b < W.heap.size → W'.heap[b]? = W.heap[b]? := by
  have hs : 4 < W.heap.size := by
    rcases Nat.lt_or_ge 4 W.heap.size with h' | h'
    · exact h'
    · have := space_cell h 0 (by omega)
      unfold World.cell? at this
      rw [Array.getElem?_eq_none h'] at this
      simp at this
  obtain ⟨H, low, hr⟩ := isTrue_of lr_run
  have hr0 : HR rhoZ (.mk 0 []) W := by
    refine ⟨fun id e ex wc fz cs h => absurd h (by rw [get0]; simp), fun id wc es cl h => absurd h (by rw [get0]; simp), fun id id' o o' h => absurd h (by rw [get0]; simp), fun b hb => hb.elim, fun id o h => absurd h (by rw [get0]; simp)⟩
  refine ((lrC_sound 3 [] _ _ _ hr).2 rhoZ W [] hr0 ((lr_glob h hs).cfg rfl) ⟨rfl, fun j a u h => by simp at h⟩).mono fun e W' he => ?_
  cases e with
  | returned u =>
    obtain ⟨ρ', v1, H1, low1, heq, st, av⟩ := he
    cases heq
    cases av
    exact ⟨rfl, st.tra.os, st.tra.output, fun b hb => st.tra.keep b hb fun ho => by
      rcases ho with ho | ⟨_, _, ho, _⟩
      · exact ho
      · rw [get0] at ho; cases ho⟩
  | panicked ch => obtain ⟨ρ', v1, u, H1, low1, heq, _⟩ := he; cases heq
  | outgrown => exact he.elim
end Go.Proofs.YtobejienmopklaaGreatDoor.Ev
