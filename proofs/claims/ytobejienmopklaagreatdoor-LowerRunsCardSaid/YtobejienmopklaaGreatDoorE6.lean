/- LowerRuns: code and calls. Conditions: none beyond the card's own. -/
import Derived.Test.YtobejienmopklaaGreatDoorE5
import Derived.Tactics
/- Regions in text order, code. -/
namespace Go.Proofs.YtobejienmopklaaGreatDoor.Ev
set_option linter.unusedVariables false
set_option linter.unnecessarySimpa false
set_option linter.unusedSimpArgs false
variable {C : Cfg} {D : List Deferred} {ρ : Rho} {H : Heap} {w : World}

def GlobOK (C : Cfg) (ρ : Rho) (H : Heap) (w : World) : Prop := ∀ g cs, C.glob g = some cs → AVR ρ H w (.iptr cs) (.pointer (some ⟨g, 0, none⟩))

/-- what a call of the evaluator's tells of a call in the world -/
def CallAt (C : Cfg) (f : FuncId) (g : List AV → Heap → Nat → Option R) : Prop := ∀ args H low r, g args H low = some r → (∃ fn, C.P.funcs[f]? = some fn ∧ fn.body.isSome = true ∧ fn.name ≠ "runtime.NumGoroutine") ∧
  ∀ ρ w vals, HR ρ H w → GlobOK C ρ H w → ArgsR ρ H w args vals → Calls C.P f vals.toArray w fun e w' => match e with
    | .returned u => ∃ ρ' v H' low', r = .mk v H' low' ∧ Stp ρ H low w ρ' H' low' w' ∧ AVR ρ' H' w' v u
    | .panicked ch => ∃ ρ' v u H' low', r = .pan v H' low' ∧ ch = [{ v := u, recovered := false }] ∧ Stp ρ H low w ρ' H' low' w' ∧ AVR ρ' H' w' v u
    | .outgrown => False

def CallOK (C : Cfg) (call : CallF) : Prop := ∀ f, CallAt C f (call f)

def ExR (ρ : Rho) (H : Heap) (w : World) : Ex → Exit → Prop
  | .normal, .normal => True
  | .exit i, .exit j => i = j
  | .ret, .ret => True
  | .panic v, .panic ch => ∃ u, ch = [{ v := u, recovered := false }] ∧ AVR ρ H w v u
  | _, _ => False

structure St (C : Cfg) (nt : Nat) (D : List Deferred) (ρ : Rho) (H : Heap) (w : World) (env : Env) (a : Act) : Prop where
  hr : HR ρ H w
  er : ER C ρ H w env a.tmps
  size : a.tmps.size = nt
  defers : a.defers = D

def Post (C : Cfg) (nt : Nat) (D : List Deferred) (ρ : Rho) (H : Heap) (low : Nat) (w : World) : S → Exit → Act → World → Prop
  | ⟨x, env, H', low'⟩, e, a', w' => ∃ ρ', Stp ρ H low w ρ' H' low' w' ∧ St C nt D ρ' H' w' env a' ∧ ExR ρ' H' w' x e

theorem Post.trans {nt : Nat} {ρ1 : Rho} {H1 : Heap} {low low1 : Nat} {w1 : World} {s : S} (h : Stp ρ H low w ρ1 H1 low1 w1) {e : Exit} {a : Act} {w' : World} (p : Post C nt D ρ1 H1 low1 w1 s e a w') : Post C nt D ρ H low w s e a w' := by
  obtain ⟨x, env, H', low'⟩ := s
  obtain ⟨ρ', h1, h2, h3⟩ := p
  exact ⟨ρ', Stp.trans h h1, h2, h3⟩

theorem ER.put {nt : Nat} {env : Env} {a : Act} {dst : Option Tmp} {v : AV} {u : Value} (h : ER C ρ H w env a.tmps) (hs : a.tmps.size = nt) (hv : AVR ρ H w v u) :
    ER C ρ H w (putF nt dst v env) (a.put dst u).tmps := by
  cases dst with
  | none => exact h
  | some d =>
    refine ⟨fun t => ?_, h.glob, h.prim⟩
    show AVR ρ H w ((Tr.get ((cnd (Nat.blt d nt) (Tr.setP (bits d)) (fun _ env => env)) v env) t).getD .undef) ((a.tmps.setIfInBounds d u).getD t Go.undef)
    rw [cnd_eq]
    by_cases hd : d < nt
    · rw [if_pos (by simpa [Nat.blt_eq] using hd)]
      have e := Tr.get_set env d t v
      unfold Tr.set at e
      rw [e]
      by_cases ht : t = d
      · subst ht
        simp [Array.getD_eq_getD_getElem?, hs, hd]; exact hv
      · rw [if_neg ht]
        simp [Array.getD_eq_getD_getElem?, Array.getElem?_setIfInBounds_ne (Ne.symm ht)]
        have := h.slot t
        simpa [Array.getD_eq_getD_getElem?] using this
    · rw [if_neg (by simpa [Nat.blt_eq] using hd)]
      have e : a.tmps.setIfInBounds d u = a.tmps := by unfold Array.setIfInBounds; rw [dif_neg (by rw [hs]; exact hd)]
      rw [e]
      exact h.slot t

theorem put_size {a : Act} {dst : Option Tmp} {u : Value} : (a.put dst u).tmps.size = a.tmps.size := by cases dst <;> simp [Act.put]
theorem put_defers {a : Act} {dst : Option Tmp} {u : Value} : (a.put dst u).defers = a.defers := by cases dst <;> rfl

theorem St.put {nt : Nat} {env : Env} {a : Act} {dst : Option Tmp} {v : AV} {u : Value} (h : St C nt D ρ H w env a) (hv : AVR ρ H w v u) : St C nt D ρ H w (putF nt dst v env) (a.put dst u) :=
  ⟨h.hr, h.er.put h.size hv, by rw [put_size]; exact h.size, by rw [put_defers]; exact h.defers⟩

theorem St.step {nt : Nat} {env : Env} {a : Act} {ρ' : Rho} {H' : Heap} {low low' : Nat} {w' : World} (h : St C nt D ρ H w env a) (s : Stp ρ H low w ρ' H' low' w') : St C nt D ρ' H' w' env a :=
  ⟨s.hr, h.er.mono s.tra, h.size, h.defers⟩

theorem guard_is {nt : Nat} {ops : Array Oper} {g : Nat × Bool} {env : Env} {a : Act} {b : Bool} {o : Oper} (h : St C nt D ρ H w env a) (ho : o.guard = some g) (hg : guardF ops g env = some b) : Region.wanted o (yielded ops a.tmps) = b := by
  obtain ⟨j, want⟩ := g
  unfold guardF at hg
  cases hj : ops[j]? with
  | none => rw [hj] at hg; cases hg
  | some oj =>
    rw [hj] at hg
    simp only at hg
    cases hd : oj.dst with
    | none => rw [hd] at hg; cases hg
    | some d =>
      rw [hd] at hg
      simp only at hg
      have hsl := h.er.slot d
      change (match Tr.get env d with | some (.bool b) => some (cnd b want (!want)) | some (.tup []) => some false | none => some false | _ => none) = some b at hg
      have hy : yielded ops a.tmps j = match a.tmps[d]? with | some (.bool b) => some b | _ => none := by
        simp only [yielded, hj, hd, Option.bind_some]
        cases a.tmps[d]? with
        | none => rfl
        | some u => cases u <;> rfl
      unfold Region.wanted
      rw [ho]
      simp only [hy]
      cases he : Tr.get env d with
      | none =>
        rw [he] at hg hsl
        cases hg
        simp only [Option.getD_none] at hsl
        cases hq : a.tmps[d]? with
        | none => rfl
        | some u =>
          rw [Array.getD_eq_getD_getElem?, hq] at hsl
          simp only [Option.getD_some] at hsl
          cases hsl; rfl
      | some v =>
        rw [he] at hg hsl
        simp only [Option.getD_some] at hsl
        cases v <;> try simp only at hg <;> try (cases hg; done)
        · rename_i t
          cases hg
          cases hq : a.tmps[d]? with
          | none => rw [Array.getD_eq_getD_getElem?, hq] at hsl; cases hsl
          | some u =>
            rw [Array.getD_eq_getD_getElem?, hq] at hsl
            simp only [Option.getD_some] at hsl
            cases hsl
            cases t <;> cases want <;> rfl
        · rename_i vs
          cases vs with
          | cons x xs => simp at hg
          | nil =>
            simp at hg
            subst hg
            cases hq : a.tmps[d]? with
            | none => rfl
            | some u =>
              rw [Array.getD_eq_getD_getElem?, hq] at hsl
              simp only [Option.getD_some] at hsl
              cases hsl; rfl

theorem run_callFunc {fid : FuncId} {fn : Func} {vals : Array Value} (h1 : C.P.funcs[fid]? = some fn) (h2 : fn.body.isSome = true) (h3 : fn.name ≠ "runtime.NumGoroutine") : (callFunc fid vals).run C.P w = .ok (.enter fid vals) w := by
  cases hb : fn.body with
  | none => rw [hb] at h2; cases h2
  | some c => simp [callFunc, h1, h3, hb]

/-- one operation's step in a region -/
theorem step_ok {nt : Nat} {call : CallF} (hc : CallOK C call) {ops : Array Oper} {o : Oper} {env : Env} {a : Act} {low : Nat} {s : S} {rest : RunF} {next : Act → World → Prop} {Q : Exit → Act → World → Prop} (h : St C nt D ρ H w env a)
    (hn : ∀ ρ' H' low' w' env' a', Stp ρ H low w ρ' H' low' w' → St C nt D ρ' H' w' env' a' → rest call env' H' low' = some s → next a' w')
    (hQ : ∀ e a' w', Post C nt D ρ H low w s e a' w' → Q e a' w')
    (he : stepF (kind C o.op) (putF nt o.dst) rest call env H low = some s) : o.wp C.P a w next Q := by
  have hk := kind_ok (o := o) h.er h.hr
  unfold Oper.wp
  cases hkd : kind C o.op with
  | pure f =>
    rw [hkd] at hk he
    obtain ⟨v, h1, h2⟩ := bnd_eq.1 he
    obtain ⟨u, r1, r2⟩ := hk v h1
    rw [r1, Oper.upon_value]
    exact hn ρ H low w _ _ (.refl h.hr) (h.put r2) h2
  | gen f =>
    rw [hkd] at hk he
    obtain ⟨d, h1, h2⟩ := bnd_eq.1 he
    obtain ⟨nx, u, w', r1, r2, r3⟩ := hk H.len d h1
    have key : next (a.put o.dst u) w' := by
      obtain ⟨v, rd, wr, new⟩ := d
      change layW wr H low (fun H low => rest call (putF nt o.dst v env) (layN new H) low) = some s at h2
      rw [layW_eq] at h2
      cases new with
      | none =>
        obtain ⟨s1, s2⟩ := r3
        exact hn ρ _ _ w' _ _ (s1 low) ((h.step (s1 low)).put s2) h2
      | some obj =>
        have hlen : (layH wr H).len = H.len := by
          have : ∀ (l : List (Nat × AO × Bool)) (H : Heap), (layH l H).len = H.len := by
            intro l
            induction l with
            | nil => intro H; rfl
            | cons x l ih => intro H; exact (ih _).trans (by simp)
          exact this wr H
        have hF : Filled (layH wr H) H.len obj ((layH wr H).push obj) := by
          have := filled_push (layH wr H) obj
          rwa [hlen] at this
        obtain ⟨p, s1, s2⟩ := r3 H.has ((layH wr H).push obj) low hF (fun i hi => ⟨hi, Nat.ne_of_lt (Heap.lt_of_has hi)⟩) (fun id o hg => h.hr.orb hg) (fun t => (h.er.slot t).rb) (Heap.get_none (Nat.le_refl _))
        exact hn _ _ _ w' _ _ s1 ((h.step s1).put s2) h2
    rw [r1]
    rcases r2 with rfl | ⟨rfl, rfl⟩
    · exact key
    · exact key
  | call f =>
    rw [hkd] at hk he
    obtain ⟨⟨fid, args⟩, h0, he⟩ := bnd_eq.1 he
    obtain ⟨r, k2, h2⟩ := bnd_eq.1 he
    obtain ⟨vals, k1, k3⟩ := hk fid args h0
    obtain ⟨⟨fn, f1, f2, f3⟩, hcalls⟩ := hc fid args H low r k2
    rw [k3, run_callFunc f1 f2 f3, Oper.upon_enter]
    refine (hcalls ρ w vals h.hr h.er.glob k1).mono fun e w' hR => ?_
    cases e with
    | returned u =>
      obtain ⟨ρ', v, H', low', rfl, s1, s2⟩ := hR
      exact hn ρ' H' low' w' _ _ s1 ((h.step s1).put s2) h2
    | panicked chain =>
      obtain ⟨ρ', v, u, H', low', rfl, rfl, s1, s2⟩ := hR
      cases h2
      exact hQ _ _ _ ⟨ρ', s1, h.step s1, u, rfl, s2⟩
    | outgrown => exact hR.elim
  | pan f =>
    rw [hkd] at hk he
    obtain ⟨v, h1, h2⟩ := bnd_eq.1 he
    cases h2
    obtain ⟨u, r1, r2⟩ := hk v h1
    rw [r1, Oper.upon_panic]
    exact hQ _ _ _ ⟨ρ, .refl h.hr, h, u, rfl, r2⟩

theorem ops_ok {nt : Nat} {call : CallF} (hc : CallOK C call) {ops : Array Oper} {Q : Exit → Act → World → Prop} : ∀ (l : List Oper) (ρ : Rho) (H : Heap) (low : Nat) (w : World) (env : Env) (a : Act) (s : S),
    evOps C nt ops l call env H low = some s → St C nt D ρ H w env a → (∀ e a' w', Post C nt D ρ H low w s e a' w' → Q e a' w') → wpList C.P ops Q l a w := by
  intro l
  induction l with
  | nil =>
    intro ρ H low w env a s he h hQ
    cases he
    exact hQ _ _ _ ⟨ρ, .refl h.hr, h, trivial⟩
  | cons o l ih =>
    intro ρ H low w env a s he h hQ
    have stp : stepF (kind C o.op) (putF nt o.dst) (evOps C nt ops l) call env H low = some s → o.wp C.P a w (wpList C.P ops Q l) Q := fun he =>
      step_ok (ops := ops) hc h (fun ρ' H' low' w' env' a' s1 h1 h2 => ih ρ' H' low' w' env' a' s h2 h1 fun e a'' w'' p => hQ _ _ _ (p.trans s1)) hQ he
    unfold wpList
    simp only [evOps] at he
    cases hg : o.guard with
    | none =>
      rw [hg] at he
      have : Region.wanted o (yielded ops a.tmps) = true := by simp [Region.wanted, hg]
      rw [if_pos this]
      exact .inl (stp he)
    | some g =>
      rw [hg] at he
      simp only at he
      cases hgf : guardF ops g env with
      | none => rw [hgf] at he; cases he
      | some b =>
        rw [hgf] at he
        have hw := guard_is h hg hgf
        cases b with
        | true => rw [if_pos hw]; exact .inl (stp he)
        | false =>
          rw [if_neg (by rw [hw]; simp)]
          exact ih ρ H low w _ _ s he (h.put .undef) hQ

end Go.Proofs.YtobejienmopklaaGreatDoor.Ev

/- Code: sequences, conditions, blocks, loops. -/
namespace Go.Proofs.YtobejienmopklaaGreatDoor.Ev
set_option linter.unusedVariables false
set_option linter.unnecessarySimpa false
set_option linter.unusedSimpArgs false
variable {C : Cfg} {D : List Deferred} {ρ : Rho} {H : Heap} {w : World}

/-- a loop that has been entered -/
def LoopWp (P : Program) (c : Code) (Q : Exit → Act → World → Prop) (a : Act) (w : World) : Prop :=
  ∀ b k cs, ∃ e a' w', Q e a' w' ∧ Arrives P (lone (b.at a (.code c :: .inLoop c :: k)) cs w) b k cs e a' w'

theorem LoopWp.mono {P : Program} {c : Code} {Q Q' : Exit → Act → World → Prop} {a : Act} (h : LoopWp P c Q a w) (hq : ∀ e a w, Q e a w → Q' e a w) : LoopWp P c Q' a w :=
  fun b k cs => let ⟨e, a', w', q, r⟩ := h b k cs; ⟨e, a', w', hq _ _ _ q, r⟩

theorem loop_round {P : Program} {c : Code} {Q : Exit → Act → World → Prop} {a : Act} (h : c.wp P (Exit.then (LoopWp P c Q) Q) a w) : LoopWp P c Q a w := by
  intro b k cs
  obtain ⟨e, a₁, w₁, hq, harr⟩ := h b (.inLoop c :: k) cs
  cases e with
  | normal =>
    obtain ⟨e₂, a₂, w₂, hq₂, harr₂⟩ := hq b k cs
    exact ⟨e₂, a₂, w₂, hq₂, .of_steps (Steps.trans harr (.one step_inLoop)) harr₂⟩
  | exit id => exact ⟨_, a₁, w₁, hq, .pass (x := .inLoop c) rfl (fun _ _ => .inl (by simp)) harr⟩
  | goto l => exact ⟨_, a₁, w₁, hq, .pass (x := .inLoop c) rfl (fun _ _ => .inl (by simp)) harr⟩
  | ret => exact ⟨_, a₁, w₁, hq, .pass (x := .inLoop c) rfl (fun _ _ => .inl (by simp)) harr⟩
  | panic ch => exact ⟨_, a₁, w₁, hq, .pass (x := .inLoop c) rfl (fun _ _ => .inl (by simp)) harr⟩
  | outgrown => exact ⟨_, a₁, w₁, hq, .pass (x := .inLoop c) rfl (fun _ _ => .inl (by simp)) harr⟩

theorem loop_enter {P : Program} {c : Code} {Q : Exit → Act → World → Prop} {a : Act} (h : LoopWp P c Q a w) : (Code.loop c).wp P Q a w := by
  intro b k cs
  obtain ⟨e, a', w', hq, harr⟩ := h b k cs
  exact ⟨e, a', w', hq, .of_steps (.one step_loop) harr⟩

def LoopOK (C : Cfg) (fid : FuncId) (nt : Nat) (loop : CodeF) : Prop := ∀ b env H low s, regsB C fid b = true → loop (.loop b) env H low = some s → ∀ D ρ w a, St C nt D ρ H w env a → LoopWp C.P b (Post C nt D ρ H low w s) a w
def DrawOK (C : Cfg) (fid : FuncId) (nt : Nat) (call : CallF) : Prop := ∀ id ops env H low s loop, regsB C fid (.region id ops true) = true → drawF C fid nt id ops call loop env H low = some s → ∀ D ρ w a, St C nt D ρ H w env a → (Code.region id ops true).wp C.P (Post C nt D ρ H low w s) a w

theorem onS_some {s : Option S} {k : Ex → Env → Heap → Nat → Option S} {r : S} (h : onS s k = some r) : ∃ x env H low, s = some ⟨x, env, H, low⟩ ∧ k x env H low = some r := by
  unfold onS at h
  obtain ⟨⟨x, env, H, low⟩, h1, h2⟩ := bnd_eq.1 h
  exact ⟨x, env, H, low, h1, h2⟩

theorem code_ok {fid : FuncId} {nt : Nat} {call : CallF} {loop : CodeF} (hc : CallOK C call) (hl : LoopOK C fid nt loop) (hd : DrawOK C fid nt call) : ∀ (c : Code), regsB C fid c = true → ∀ (ρ : Rho) (H : Heap) (low : Nat) (w : World) (env : Env) (a : Act) (s : S),
    evC C fid nt c call loop env H low = some s → St C nt D ρ H w env a → c.wp C.P (Post C nt D ρ H low w s) a w := by
  intro c
  induction c with
  | skip => intro hg ρ H low w env a s he h; cases he; exact wp_skip ⟨ρ, .refl h.hr, h, trivial⟩
  | region id ops draw =>
    intro hg ρ H low w env a s he h
    cases draw with
    | false => exact wp_region_list (ops_ok hc ops.toList ρ H low w env a s he h fun _ _ _ p => p)
    | true => exact hd id ops env H low s loop hg he D ρ w a h
  | seq x y ih1 ih2 =>
    intro hg ρ H low w env a s he h
    simp only [evC, seqF] at he
    obtain ⟨e1, env1, H1, low1, h1, h2⟩ := onS_some he
    refine wp_seq (wp_mono (ih1 (Bool.and_eq_true _ _ ▸ hg).1 ρ H low w env a _ h1 h) fun e a1 w1 p => ?_)
    obtain ⟨ρ1, p1, p2, p3⟩ := p
    cases e1 with
    | normal =>
      cases e <;> first | exact p3.elim | skip
      exact wp_mono (ih2 (Bool.and_eq_true _ _ ▸ hg).2 ρ1 H1 low1 w1 env1 a1 s h2 p2) fun _ _ _ q => q.trans p1
    | exit i =>
      cases h2
      cases e <;> first | exact p3.elim | exact ⟨ρ1, p1, p2, p3⟩
    | ret =>
      cases h2
      cases e <;> first | exact p3.elim | exact ⟨ρ1, p1, p2, p3⟩
    | panic v =>
      cases h2
      cases e <;> first | exact p3.elim | exact ⟨ρ1, p1, p2, p3⟩
  | cond x p q ih1 ih2 =>
    intro hg ρ H low w env a s he h
    simp only [evC, condF] at he
    split at he
    case h_2 => cases he
    rename_i t ht
    have hx := evO_ok h.er ht
    generalize hu : a.eval x = ux at hx
    cases hx
    refine wp_cond hu ?_
    cases t with
    | true => exact ih1 (Bool.and_eq_true _ _ ▸ hg).1 ρ H low w env a s he h
    | false => exact ih2 (Bool.and_eq_true _ _ ▸ hg).2 ρ H low w env a s he h
  | block id b ih =>
    intro hg ρ H low w env a s he h
    simp only [evC, blockF] at he
    obtain ⟨e1, env1, H1, low1, h1, h2⟩ := onS_some he
    refine wp_block (wp_mono (ih hg ρ H low w env a _ h1 h) fun e a1 w1 p => ?_)
    obtain ⟨ρ1, p1, p2, p3⟩ := p
    cases e1 with
    | normal =>
      cases h2
      cases e <;> first | exact p3.elim | exact ⟨ρ1, p1, p2, p3⟩
    | ret =>
      cases h2
      cases e <;> first | exact p3.elim | exact ⟨ρ1, p1, p2, p3⟩
    | panic v =>
      cases h2
      cases e <;> first | exact p3.elim | exact ⟨ρ1, p1, p2, p3⟩
    | exit i =>
      simp only at h2
      rw [cnd_eq] at h2
      cases e <;> first | exact p3.elim | skip
      have p4 : i = _ := p3
      subst p4
      split at h2
      · rename_i hij
        cases h2
        have : i = id := by simpa using hij
        show (if i = id then _ else _)
        rw [if_pos this]
        exact ⟨ρ1, p1, p2, trivial⟩
      · rename_i hij
        cases h2
        have : ¬ (i = id) := by simpa using hij
        show (if i = id then _ else _)
        rw [if_neg this]
        exact ⟨ρ1, p1, p2, rfl⟩
  | loop b ih =>
    intro hg ρ H low w env a s he h
    simp only [evC, loopF] at he
    obtain ⟨e1, env1, H1, low1, h1, h2⟩ := onS_some he
    refine loop_enter (loop_round (wp_mono (ih hg ρ H low w env a _ h1 h) fun e a1 w1 p => ?_))
    obtain ⟨ρ1, p1, p2, p3⟩ := p
    cases e1 with
    | normal =>
      cases e <;> first | exact p3.elim | skip
      exact (hl b env1 H1 low1 s hg h2 D ρ1 w1 a1 p2).mono fun _ _ _ q => q.trans p1
    | exit i =>
      cases h2
      cases e <;> first | exact p3.elim | exact ⟨ρ1, p1, p2, p3⟩
    | ret =>
      cases h2
      cases e <;> first | exact p3.elim | exact ⟨ρ1, p1, p2, p3⟩
    | panic v =>
      cases h2
      cases e <;> first | exact p3.elim | exact ⟨ρ1, p1, p2, p3⟩
  | exit id => intro hg ρ H low w env a s he h; cases he; exact wp_exit ⟨ρ, .refl h.hr, h, rfl⟩
  | ret => intro hg ρ H low w env a s he h; cases he; exact wp_ret ⟨ρ, .refl h.hr, h, trivial⟩
  | _ => intro hg ρ H low w env a s he h; cases he

theorem loop_ok {fid : FuncId} {nt : Nat} {call : CallF} {loop : CodeF} (hc : CallOK C call) (hl : LoopOK C fid nt loop) (hd : DrawOK C fid nt call) : LoopOK C fid nt (fun c => evC C fid nt c call loop) := by
  intro b env H low s hg he D ρ w a h
  simp only [evC, loopF] at he
  obtain ⟨e1, env1, H1, low1, h1, h2⟩ := onS_some he
  refine loop_round (wp_mono (code_ok hc hl hd b hg ρ H low w env a _ h1 h) fun e a1 w1 p => ?_)
  obtain ⟨ρ1, p1, p2, p3⟩ := p
  cases e1 with
  | normal =>
    cases e <;> first | exact p3.elim | skip
    exact (hl b env1 H1 low1 s hg h2 D ρ1 w1 a1 p2).mono fun _ _ _ q => q.trans p1
  | exit i =>
    cases h2
    cases e <;> first | exact p3.elim | exact ⟨ρ1, p1, p2, p3⟩
  | ret =>
    cases h2
    cases e <;> first | exact p3.elim | exact ⟨ρ1, p1, p2, p3⟩
  | panic v =>
    cases h2
    cases e <;> first | exact p3.elim | exact ⟨ρ1, p1, p2, p3⟩

end Go.Proofs.YtobejienmopklaaGreatDoor.Ev

/- What a call made becomes data. -/
namespace Go.Proofs.YtobejienmopklaaGreatDoor.Ev
set_option linter.unusedVariables false
set_option linter.unnecessarySimpa false
set_option linter.unusedSimpArgs false
variable {C : Cfg} {ρ ρ' : Rho} {H H1 H' : Heap} {w : World} {n0 : Nat}

/-- From the state at a callee's end to the caller's: the same world; old objects are as they were; what is settled has no owner any more. -/
structure Lets (n0 : Nat) (ρ : Rho) (H H1 : Heap) (w : World) (ρ' : Rho) (H' : Heap) : Prop where
  hr : HR ρ H w
  tra : Tra (fun i => i < n0 ∧ H.has i) ρ H w ρ' H' w
  sub : ∀ i o, H1.get i = some o → o ≠ .dead → H.get i = some o
  free : ∀ i o, n0 ≤ i → H1.get i = some o → o ≠ .dead → ¬ Owned ρ' H' (ρ i).1

theorem RB.and {A B : Nat → Prop} {a : AV} (h : RB A a) : RB B a → RB (fun i => A i ∧ B i) a := by
  induction h with
  | int | bool | str | nilp | nilm | nilf | nili => intro _; constructor
  | ref id off hi => intro k; cases k with | ref _ _ h2 => exact .ref _ _ ⟨hi, h2⟩
  | iptr cells hc _ => intro _; exact .iptr _ hc
  | slc id off len sz clip hi => intro k; cases k with | slc _ _ _ _ _ h2 => exact .slc _ _ _ _ _ ⟨hi, h2⟩
  | sl clip sz elems he _ => intro _; exact .sl _ _ _ he
  | mref id hi => intro k; cases k with | mref _ h2 => exact .mref _ ⟨hi, h2⟩
  | fn f first cap _ _ ih1 ih2 => intro k; cases k with | fn _ _ _ k1 k2 => exact .fn _ _ _ (fun j a ha => ih1 j a ha (k1 j a ha)) (fun j a ha => ih2 j a ha (k2 j a ha))
  | iface t v _ ih => intro k; cases k with | iface _ _ k1 => exact .iface _ _ (ih k1)
  | agg cells _ ih => intro k; cases k with | agg _ k1 => exact .agg _ (fun j a ha => ih j a ha (k1 j a ha))
  | tup vs _ ih => intro k; cases k with | tup _ k1 => exact .tup _ (fun j a ha => ih j a ha (k1 j a ha))
theorem ORB.and {A B : Nat → Prop} {o : AO} (h : ORB A o) (k : ORB B o) : ORB (fun i => A i ∧ B i) o := by
  cases o with
  | row e ex wc fz cs => exact fun j a ha => (h j a ha).and (k j a ha)
  | map wc es cl => exact fun j x v b hb => ⟨(h j x v b hb).1.and (k j x v b hb).1, (h j x v b hb).2.and (k j x v b hb).2⟩
  | dead => trivial
theorem ORB.mono {A B : Nat → Prop} {o : AO} (h : ORB A o) (hs : ∀ i, A i → B i) : ORB B o := by
  cases o with
  | row e ex wc fz cs => exact fun j a ha => (h j a ha).mono hs
  | map wc es cl => exact fun j x v b hb => ⟨(h j x v b hb).1.mono hs, (h j x v b hb).2.mono hs⟩
  | dead => trivial

theorem chunks_len (sz : Nat) : ∀ (n : Nat) (cs : List AV), (chunks sz n cs).length = n := by
  intro n
  induction n with
  | zero => intro cs; rfl
  | succ n ih => intro cs; simp [chunks, ih]
theorem chunks_get (sz : Nat) : ∀ (n : Nat) (cs : List AV), n * sz ≤ cs.length → ∀ (i : Nat) e, (chunks sz n cs)[i]? = some e → i < n ∧ e.length = sz ∧ ∀ (j : Nat) a, e[j]? = some a → cs[i * sz + j]? = some a := by
  intro n
  induction n with
  | zero => intro cs _ i e h; simp [chunks] at h
  | succ n ih =>
    intro cs hl i e h
    have hl1 : (n + 1) * sz = n * sz + sz := Nat.succ_mul _ _
    cases i with
    | zero =>
      simp only [chunks, List.getElem?_cons_zero, Option.some.injEq] at h
      have ht : takeN sz cs = some (cs.take sz) := (takeN_eq _ _ _).2 ⟨by omega, rfl⟩
      rw [ht] at h
      subst h
      refine ⟨by omega, by simp; omega, fun j a ha => ?_⟩
      rw [List.getElem?_take] at ha
      split at ha
      · simpa using ha
      · cases ha
    | succ i =>
      simp only [chunks, List.getElem?_cons_succ] at h
      obtain ⟨h1, h2, h3⟩ := ih (dropN sz cs) (by rw [dropN_eq]; simp; omega) i e h
      refine ⟨by omega, h2, fun j a ha => ?_⟩
      have := h3 j a ha
      rw [dropN_eq, List.getElem?_drop] at this
      rw [← this]; congr 1
      rw [Nat.succ_mul]; omega

def SetV (n0 : Nat) (ρ : Rho) (H H1 : Heap) (w : World) (ρ' : Rho) (H' : Heap) (n : Nat) : Prop :=
  ∀ top v v' u, settle H1 n0 top n v = some v' → AVR ρ H w v u → AVR ρ' H' w v' u ∧ (top = false → RB (fun _ => False) v')
def SetL (n0 : Nat) (ρ : Rho) (H H1 : Heap) (w : World) (ρ' : Rho) (H' : Heap) (n : Nat) : Prop :=
  ∀ top vs vs', settleL H1 n0 top n vs = some vs' → vs'.length = vs.length ∧ ∀ (j : Nat) b a u, vs[j]? = some b → vs'[j]? = some a → AVR ρ H w b u → AVR ρ' H' w a u ∧ (top = false → RB (fun _ => False) a)

theorem settle_both (L : Lets n0 ρ H H1 w ρ' H') : ∀ n, SetV n0 ρ H H1 w ρ' H' n ∧ SetL n0 ρ H H1 w ρ' H' n := by
  intro n
  induction n with
  | zero => exact ⟨fun top v v' u h => by simp [settle] at h, fun top vs vs' h => by simp [settleL] at h⟩
  | succ n ih =>
    obtain ⟨ihv, ihl⟩ := ih
    refine ⟨fun top v v' u h hv => ?_, fun top vs vs' h => ?_⟩
    · have stay : ∀ {v}, AVR ρ H w v u → RB (fun _ => False) v → AVR ρ' H' w v u ∧ (top = false → RB (fun _ => False) v) := fun h1 h2 => ⟨h1.tra L.tra h2.none, fun _ => h2⟩
      unfold settle at h
      split at h
      · rename_i id off
        simp only [cnd_eq] at h
        split at h
        · rename_i hid
          simp only [Nat.blt_eq] at hid
          split at h
          · rename_i ht
            cases h
            exact ⟨hv.tra L.tra (.ref _ _ ⟨hid, by cases hv.rb with | ref _ _ h => exact h⟩), fun hf => by rw [ht] at hf; cases hf⟩
          · cases h
        · rename_i hid
          have hid' : n0 ≤ id := by simpa [Nat.blt_eq] using hid
          split at h
          case h_2 => cases h
          rename_i e ex wc fz cs hg
          split at h
          case h_2 => cases h
          rename_i r hr
          cases h
          have hg0 := L.sub _ _ hg (by simp)
          obtain ⟨l1, l2⟩ := ihl false _ _ hr
          obtain ⟨us, m1, m2⟩ := L.hr.cells hg0
          have key : ∀ (j : Nat) a, r[j]? = some a → ∃ b, cs[off + j]? = some b ∧ AVR ρ' H' w a (us (off + j)) ∧ RB (fun _ => False) a := by
            intro j a ha
            have hlt := (List.getElem?_eq_some_iff.1 ha).1
            rw [l1] at hlt
            obtain ⟨b0, hb⟩ : ∃ b, (dropN off cs)[j]? = some b := ⟨_, List.getElem?_eq_getElem hlt⟩
            have hb2 := hb
            rw [dropN_eq, List.getElem?_drop] at hb2
            obtain ⟨q1, q2⟩ := l2 j _ a _ hb ha (m2 _ _ hb2)
            exact ⟨_, hb2, q1, q2 rfl⟩
          cases hv with
          | ref _ _ p h1 h2 =>
            subst h2
            have rb : ∀ (j : Nat) a, r[j]? = some a → RB (fun _ => False) a := fun j a ha => let ⟨_, _, _, q⟩ := key j a ha; q
            refine ⟨.iptr _ _ _ (fun j => us (off + j)) (L.free _ _ hid' hg (by simp)) (L.hr.lt hg0 (by simp)) (fun j a ha => ?_) rb (fun j a ha => ?_), fun _ => .iptr _ rb⟩
            · obtain ⟨b, hb, _⟩ := key j a ha
              rw [Nat.add_assoc]; exact m1 _ _ hb
            · obtain ⟨b, hb, q, _⟩ := key j a ha; exact q
      · rename_i id off len sz clip
        simp only [cnd_eq] at h
        split at h
        · rename_i hid
          simp only [Nat.blt_eq] at hid
          split at h
          · rename_i ht
            cases h
            exact ⟨hv.tra L.tra (.slc _ _ _ _ _ ⟨hid, by cases hv.rb with | slc _ _ _ _ _ h => exact h⟩), fun hf => by rw [ht] at hf; cases hf⟩
          · cases h
        · rename_i hid
          have hid' : n0 ≤ id := by simpa [Nat.blt_eq] using hid
          split at h
          case h_2 => cases h
          rename_i e ex wc fz cs hg
          split at h
          case h_2 => cases h
          rename_i r0 hcut
          split at h
          · cases h
          rename_i hsz0
          split at h
          case h_2 => cases h
          rename_i r hr
          cases h
          have hg0 := L.sub _ _ hg (by simp)
          obtain ⟨l1, l2⟩ := ihl false _ _ hr
          obtain ⟨us, m1, m2⟩ := L.hr.cells hg0
          have hrl := cut_len hcut
          have key : ∀ (j : Nat) a, r[j]? = some a → ∃ b, cs[off + j]? = some b ∧ AVR ρ' H' w a (us (off + j)) ∧ RB (fun _ => False) a := by
            intro j a ha
            have hlt := (List.getElem?_eq_some_iff.1 ha).1
            rw [l1] at hlt
            have hb : r0[j]? = some (r0[j]'hlt) := by simp [hlt]
            have hb2 := hb
            rw [cut_get hcut j (by omega)] at hb2
            obtain ⟨q1, q2⟩ := l2 j _ a _ hb ha (m2 _ _ hb2)
            exact ⟨_, hb2, q1, q2 rfl⟩
          have hck := chunks_get sz len r (by omega)
          cases hv with
          | slc _ _ _ _ _ A c h1 h2 h3 h4 h5 =>
            have rb : ∀ (i : Nat) e (j : Nat) a, (chunks sz len r)[i]? = some e → e[j]? = some a → RB (fun _ => False) a := by
              intro i e j a hi ha
              obtain ⟨_, _, q⟩ := hck i e hi
              obtain ⟨_, _, _, q2⟩ := key _ _ (q j a ha)
              exact q2
            have hcl := chunks_len sz len r
            have main : AVR ρ' H' w (.sl clip sz (chunks sz len r)) (.slice A (chunks sz len r).length c) := by
              refine .sl _ _ _ _ _ (ρ id).1 ((ρ id).2 + off) (fun i j => us (off + (i * sz + j))) (by omega) ⟨fun hc => by rw [hcl]; exact h3 hc, fun h0 => absurd (by rw [h0]; rfl) hsz0, fun _ => h4.1⟩ (fun i e hi => (hck i e hi).2.1) (fun hne => ?_) (fun i e j a hi ha => ?_) rb (fun i e j a hi ha => ?_)
              · have : 0 < len := by
                  have := List.length_pos_iff.2 hne
                  omega
                exact ⟨h4.2 (by omega), L.free _ _ hid' hg (by simp), L.hr.lt hg0 (by simp)⟩
              · obtain ⟨_, _, q⟩ := hck i e hi
                obtain ⟨b, hb, _⟩ := key _ _ (q j a ha)
                have := m1 _ _ hb
                rw [← this]; congr 2; omega
              · obtain ⟨_, _, q⟩ := hck i e hi
                obtain ⟨b, hb, q2, _⟩ := key _ _ (q j a ha)
                exact q2
            rw [hcl] at main
            exact ⟨main, fun _ => .sl _ _ _ rb⟩
      · rename_i id
        obtain ⟨hc, h⟩ := cnd_some.1 h
        cases h
        simp only [Bool.and_eq_true, Nat.blt_eq] at hc
        exact ⟨hv.tra L.tra (.mref _ ⟨hc.1, by cases hv.rb with | mref _ h => exact h⟩), fun hf => by rw [hc.2] at hf; cases hf⟩
      · rename_i f x y
        split at h
        case h_2 => cases h
        rename_i x' y' h1 h2
        cases h
        obtain ⟨l1, l2⟩ := ihl top _ _ h1
        obtain ⟨l3, l4⟩ := ihl top _ _ h2
        cases hv with
        | fn _ _ _ fs cs k1 k2 k3 k4 =>
          have g1 : ∀ (j : Nat) a u, x'[j]? = some a → fs[j]? = some u → AVR ρ' H' w a u ∧ (top = false → RB (fun _ => False) a) := by
            intro j a u ha hu
            have hlt := (List.getElem?_eq_some_iff.1 ha).1
            have hb : x[j]? = some (x[j]'(by omega)) := by simp [show j < x.length by omega]
            exact l2 j _ a u hb ha (k3 _ _ _ hb hu)
          have g2 : ∀ (j : Nat) a u, y'[j]? = some a → cs[j]? = some u → AVR ρ' H' w a u ∧ (top = false → RB (fun _ => False) a) := by
            intro j a u ha hu
            have hlt := (List.getElem?_eq_some_iff.1 ha).1
            have hb : y[j]? = some (y[j]'(by omega)) := by simp [show j < y.length by omega]
            exact l4 j _ a u hb ha (k4 _ _ _ hb hu)
          refine ⟨.fn _ _ _ _ _ (by omega) (by omega) (fun j a u ha hu => (g1 j a u ha hu).1) (fun j a u ha hu => (g2 j a u ha hu).1), fun ht => .fn _ _ _ (fun j a ha => ?_) (fun j a ha => ?_)⟩
          · have hlt := (List.getElem?_eq_some_iff.1 ha).1
            exact (g1 j a (fs[j]'(by omega)) ha (by simp [show j < fs.size by omega])).2 ht
          · have hlt := (List.getElem?_eq_some_iff.1 ha).1
            exact (g2 j a (cs[j]'(by omega)) ha (by simp [show j < cs.size by omega])).2 ht
      · rename_i t x
        split at h
        case h_2 => cases h
        rename_i x' h1
        cases h
        cases hv with
        | iface _ _ ux k1 =>
          obtain ⟨q1, q2⟩ := ihv top x x' ux h1 k1
          exact ⟨.iface _ _ _ q1, fun ht => .iface _ _ (q2 ht)⟩
      · rename_i cs
        split at h
        case h_2 => cases h
        rename_i r h1
        cases h
        obtain ⟨l1, l2⟩ := ihl top _ _ h1
        cases hv with
        | agg _ vs k1 k2 =>
          have g1 : ∀ (j : Nat) a u, r[j]? = some a → vs[j]? = some u → AVR ρ' H' w a u ∧ (top = false → RB (fun _ => False) a) := by
            intro j a u ha hu
            have hlt := (List.getElem?_eq_some_iff.1 ha).1
            have hb : cs[j]? = some (cs[j]'(by omega)) := by simp [show j < cs.length by omega]
            exact l2 j _ a u hb ha (k2 _ _ _ hb hu)
          refine ⟨.agg _ _ (by omega) (fun j a u ha hu => (g1 j a u ha hu).1), fun ht => .agg _ (fun j a ha => ?_)⟩
          have hlt := (List.getElem?_eq_some_iff.1 ha).1
          exact (g1 j a (vs[j]'(by omega)) ha (by simp [show j < vs.size by omega])).2 ht
      · rename_i cs
        split at h
        case h_2 => cases h
        rename_i r h1
        cases h
        obtain ⟨l1, l2⟩ := ihl top _ _ h1
        cases hv with
        | tup _ vs k1 k2 =>
          have g1 : ∀ (j : Nat) a u, r[j]? = some a → vs[j]? = some u → AVR ρ' H' w a u ∧ (top = false → RB (fun _ => False) a) := by
            intro j a u ha hu
            have hlt := (List.getElem?_eq_some_iff.1 ha).1
            have hb : cs[j]? = some (cs[j]'(by omega)) := by simp [show j < cs.length by omega]
            exact l2 j _ a u hb ha (k2 _ _ _ hb hu)
          refine ⟨.tup _ _ (by omega) (fun j a u ha hu => (g1 j a u ha hu).1), fun ht => .tup _ (fun j a ha => ?_)⟩
          have hlt := (List.getElem?_eq_some_iff.1 ha).1
          exact (g1 j a (vs[j]'(by omega)) ha (by simp [show j < vs.size by omega])).2 ht
      · rename_i n1 n2 n3 n4 n5 n6 n7
        cases h
        refine stay hv ?_
        have hrb := hv.rb
        cases hrb with
        | int | bool | str | nilp | nilm | nilf | nili => constructor
        | iptr _ hh => exact .iptr _ hh
        | sl _ _ _ hh => exact .sl _ _ _ hh
        | ref id off => exact absurd rfl (by first | exact n1 _ _ | simp_all)
        | slc id off len sz clip => exact absurd rfl (n2 _ _ _ _ _)
        | mref id => exact absurd rfl (n3 _)
        | fn f x y => exact absurd rfl (n4 _ _ _)
        | iface t x => exact absurd rfl (n5 _ _)
        | agg cs => exact absurd rfl (n6 _)
        | tup cs => exact absurd rfl (n7 _)
    · cases vs with
      | nil => simp [settleL] at h; subst h; exact ⟨rfl, by simp⟩
      | cons v vs =>
        simp only [settleL] at h
        split at h
        case h_2 => cases h
        rename_i a ha
        split at h
        case h_2 => cases h
        rename_i b hb
        cases h
        obtain ⟨l1, l2⟩ := ihl top _ _ hb
        refine ⟨by simp [l1], fun j x y u hx hy hr => ?_⟩
        cases j with
        | zero => simp at hx hy; subst hx; subst hy; exact ihv top _ _ u ha hr
        | succ j => exact l2 j x y u (by simpa using hx) (by simpa using hy) hr

end Go.Proofs.YtobejienmopklaaGreatDoor.Ev

/- A call's end. -/
namespace Go.Proofs.YtobejienmopklaaGreatDoor.Ev
set_option linter.unusedVariables false
set_option linter.unnecessarySimpa false
set_option linter.unusedSimpArgs false
variable {C : Cfg} {ρ ρ' : Rho} {H H1 H' : Heap} {w : World} {n0 : Nat}

inductive KL (n0 : Nat) (H : Heap) : List AV → List K → List (Nat × Nat) → Prop where
  | nil : KL n0 H [] [] []
  | row {id off len sz clip e ex wc fz cs r vs ks ps} (h : n0 ≤ id) (hg : H.get id = some (.row e ex wc fz cs)) (hc : cut cs off (len * sz) = some r) (ho : off ≤ cs.length) (t : KL n0 H vs ks ps) :
      KL n0 H (.slc id off len sz clip :: vs) (.row e (fz - off) len sz clip r :: ks) ((id, off) :: ps)
  | val {v vs ks ps} (t : KL n0 H vs ks ps) : KL n0 H (v :: vs) (.val v :: ks) ps

theorem KL.mono {Ha Hb : Heap} {vs : List AV} {ks : List K} {ps : List (Nat × Nat)} (h : KL n0 Ha vs ks ps) (hs : ∀ i o, Ha.get i = some o → o ≠ .dead → Hb.get i = some o) : KL n0 Hb vs ks ps := by
  induction h with
  | nil => exact .nil
  | row h hg hc ho t ih => exact .row h (hs _ _ hg (by simp)) hc ho ih
  | val t ih => exact .val ih

theorem KL.live {vs : List AV} {ks : List K} {ps : List (Nat × Nat)} (h : KL n0 H vs ks ps) : ∀ p ∈ ps, n0 ≤ p.1 ∧ ∃ o, H.get p.1 = some o ∧ o ≠ .dead := by
  induction h with
  | nil => intro p hp; cases hp
  | row h hg hc ho t ih =>
    intro p hp
    rcases List.mem_cons.1 hp with rfl | hp
    · exact ⟨h, _, hg, by simp⟩
    · exact ih p hp
  | val t ih => exact ih

theorem kill_sub (H : Heap) (id : Nat) : ∀ i o, (H.set id .dead).get i = some o → o ≠ .dead → H.get i = some o ∧ i ≠ id := by
  intro i o g1 g2
  rw [Heap.get_set] at g1
  by_cases e2 : i = id
  · subst e2; rw [if_pos rfl] at g1; split at g1
    · cases g1; exact absurd rfl g2
    · cases g1
  · rw [if_neg e2] at g1; exact ⟨g1, e2⟩

theorem keepA_ok : ∀ (vs : List AV) (H : Heap) (ks : List K) (H1 : Heap), keepA n0 vs H = some (ks, H1) → ∃ ps, KL n0 H vs ks ps ∧ H1.len = H.len ∧ (∀ i o, H1.get i = some o → o ≠ .dead → H.get i = some o) ∧
    (∀ p ∈ ps, ∀ o, H1.get p.1 = some o → o = .dead) ∧ (ps.map (·.1)).Nodup := by
  intro vs
  induction vs with
  | nil => intro H ks H1 h; simp [keepA] at h; obtain ⟨rfl, rfl⟩ := h; exact ⟨[], .nil, rfl, fun _ _ h _ => h, by simp, by simp⟩
  | cons v vs ih =>
    intro H ks H1 h
    have keep : (match keepA n0 vs H with | some (r, H) => some (K.val v :: r, H) | none => none) = some (ks, H1) → ∃ ps, KL n0 H (v :: vs) ks ps ∧ H1.len = H.len ∧ (∀ i o, H1.get i = some o → o ≠ .dead → H.get i = some o) ∧
        (∀ p ∈ ps, ∀ o, H1.get p.1 = some o → o = .dead) ∧ (ps.map (·.1)).Nodup := by
      intro h
      split at h
      · rename_i r H2 h2
        cases h
        obtain ⟨ps, q1, q2⟩ := ih _ _ _ h2
        exact ⟨ps, .val q1, q2⟩
      · cases h
    unfold keepA at h
    split at h
    · rename_i id off len sz clip
      simp only [cnd_eq] at h
      split at h
      · exact keep h
      · rename_i hid
        have hid' : n0 ≤ id := by simpa [Nat.blt_eq] using hid
        split at h
        case h_2 => cases h
        rename_i e ex wc fz cs hg
        split at h
        case h_2 => cases h
        rename_i r hr
        split at h
        case isFalse => cases h
        rename_i hoc
        simp only [Nat.ble_eq] at hoc
        split at h
        case h_2 => cases h
        rename_i ks2 H2 h2
        cases h
        obtain ⟨ps, q1, q2, q3, q4, q5⟩ := ih _ _ _ h2
        have hlt := Heap.lt_of_get hg
        refine ⟨(id, off) :: ps, .row hid' hg hr hoc (q1.mono fun i o g1 g2 => (kill_sub H id i o g1 g2).1), by simpa using q2, fun i o g1 g2 => (kill_sub H id i o (q3 i o g1 g2) g2).1, fun p hp o ho => ?_, ?_⟩
        · rcases List.mem_cons.1 hp with rfl | hp
          · by_cases hd : o = .dead
            · exact hd
            · exact absurd rfl (kill_sub H id _ o (q3 _ o ho hd) hd).2
          · exact q4 p hp o ho
        · rw [List.map_cons, List.nodup_cons]
          refine ⟨fun hm => ?_, q5⟩
          obtain ⟨p, hp, he⟩ := List.mem_map.1 hm
          obtain ⟨_, o, g1, g2⟩ := q1.live p hp
          exact (kill_sub H id _ o g1 g2).2 he
    · exact keep h

theorem keepB_len : ∀ (vs : List AV) (ks : List K) (ps : List (Nat × Nat)) (new new' : Heap) (vs' : List AV), KL n0 H vs ks ps → keepB H1 n0 ks new = some (vs', new') → new'.len = new.len + ps.length ∧ (∀ i, i < new.len → new'.sl i = new.sl i) := by
  intro vs ks ps new new' vs' hk
  induction hk generalizing new new' vs' with
  | nil => intro h; simp [keepB] at h; obtain ⟨rfl, rfl⟩ := h; exact ⟨rfl, fun _ _ => rfl⟩
  | row h hg hc ho t ih =>
    intro h
    simp only [keepB] at h
    split at h
    case h_2 => cases h
    split at h
    case h_2 => cases h
    rename_i h2
    cases h
    obtain ⟨q1, q2⟩ := ih _ _ _ h2
    refine ⟨by rw [q1]; simp; omega, fun i hi => ?_⟩
    rw [q2 i (by simp; omega), Heap.sl_push, if_neg (by omega)]
  | val t ih =>
    intro h
    simp only [keepB] at h
    split at h
    case h_2 => cases h
    split at h
    case h_2 => cases h
    rename_i h2
    cases h
    exact ih _ _ _ h2

/-- what stands at a row in the world -/
def RowAt (ρ : Rho) (H : Heap) (w : World) (id : Nat) (e : TypeId) (ex : Bool) (fz : Nat) (cs : List AV) : Prop := ∃ carr lo hi, w.heap[(ρ id).1]? = some (.cells carr e (lo, hi)) ∧
    (ρ id).2 + cs.length ≤ carr.size ∧ (ex = true → (ρ id).2 = 0 ∧ carr.size = cs.length) ∧ hi ≤ (ρ id).2 + fz ∧
    ∀ (j : Nat) a, cs[j]? = some a → ∃ v, carr[(ρ id).2 + j]? = some v ∧ AVR ρ H w a v

theorem keepB_ok (L : Lets n0 ρ H H1 w ρ' H') : ∀ (vs : List AV) (ks : List K) (ps : List (Nat × Nat)) (new new' : Heap) (vs' : List AV), KL n0 H vs ks ps → keepB H1 n0 ks new = some (vs', new') →
    (∀ q p, ps[q]? = some p → ρ' (new.len + q) = ((ρ p.1).1, (ρ p.1).2 + p.2)) → (∀ i, new.len ≤ i → i < new'.len → H'.get i = new'.get i) → new'.len ≤ H'.len →
    vs'.length = vs.length ∧ (∀ (j : Nat) v a u, vs[j]? = some v → vs'[j]? = some a → AVR ρ H w v u → AVR ρ' H' w a u) ∧
    ∀ i o, new.len ≤ i → new'.get i = some o → ∃ e fz cs, o = .row e false 0 fz cs ∧ RowAt ρ' H' w i e false fz cs := by
  intro vs ks ps new new' vs' hk
  induction hk generalizing new new' vs' with
  | nil => intro h _ _ _; simp [keepB] at h; obtain ⟨rfl, rfl⟩ := h; exact ⟨rfl, by simp, fun i o hi hg => by rw [Heap.get_none hi] at hg; cases hg⟩
  | @row id off len sz clip e ex wc fz cs r vs ks ps h hg hc hoc t ih =>
    intro h hρ hH hl
    simp only [keepB] at h
    split at h
    case h_2 => cases h
    rename_i r' hr
    split at h
    case h_2 => cases h
    rename_i vs2 new2 h2
    cases h
    obtain ⟨n1, n2⟩ := keepB_len vs ks ps _ _ _ t h2
    have nl : (new.push (.row e false 0 (fz - off) r')).len = new.len + 1 := by simp
    obtain ⟨q1, q2, q3⟩ := ih _ _ _ h2 (fun q p hp => by rw [nl]; have := hρ (q + 1) p (by simpa using hp); rw [← this]; congr 1; omega) (fun i h1 h2 => hH i (by omega) h2) hl
    obtain ⟨l1, l2⟩ := (settle_both L 100000).2 false _ _ hr
    have hρ0 : ρ' new.len = ((ρ id).1, (ρ id).2 + off) := hρ 0 _ rfl
    obtain ⟨carr, lo, hi, c1, c2, c3, c4, c5⟩ := L.hr.row _ _ _ _ _ _ hg
    have hrl := cut_len hc
    have hcs := (cut_eq.1 hc).1
    refine ⟨by simp [q1], fun j v a u hv ha hr => ?_, fun i o hi' ho => ?_⟩
    · cases j with
      | succ j => exact q2 j v a u (by simpa using hv) (by simpa using ha) hr
      | zero =>
        simp at hv ha
        subst hv; subst ha
        cases hr with
        | slc _ _ _ _ _ A c h1 h2 h3 h4 h5 =>
          obtain ⟨carr', e', fr, k2, k3⟩ := h5 _ _ _ _ _ hg
          refine .slc _ _ _ _ _ _ _ ⟨_, by rw [hH new.len (Nat.le_refl _) (by omega), Heap.get_of_sl ((n2 new.len (by omega)).trans (by rw [Heap.sl_push, if_pos rfl]))]⟩ h2 h3 ⟨h4.1, fun hc0 => by rw [h4.2 hc0, hρ0, Nat.add_zero]⟩ fun e2 ex2 wc2 fz2 cs2 hg2 => ⟨carr', e', fr, by rw [hρ0]; exact k2, by rw [hρ0]; simp; omega⟩
    · rcases Nat.lt_or_ge new.len i with hlt | hge
      · exact q3 i o (by omega) ho
      · have : i = new.len := by omega
        subst this
        rw [Heap.get_of_sl ((n2 new.len (by omega)).trans (by rw [Heap.sl_push, if_pos rfl]))] at ho
        cases ho
        refine ⟨e, fz - off, r', rfl, carr, lo, hi, by rw [hρ0]; exact c1, by rw [hρ0]; simp; omega, by simp, by rw [hρ0]; simp; omega, fun j a ha => ?_⟩
        have hlt := (List.getElem?_eq_some_iff.1 ha).1
        obtain ⟨b0, hb⟩ : ∃ b, r[j]? = some b := ⟨_, List.getElem?_eq_getElem (by omega)⟩
        have hb2 := hb
        rw [cut_get hc j (by omega)] at hb2
        obtain ⟨v, v1, v2⟩ := c5 _ _ hb2
        refine ⟨v, by rw [hρ0]; simp only; rw [Nat.add_assoc]; exact v1, (l2 j b0 a v hb ha v2).1⟩
  | val t ih =>
    intro h hρ hH hl
    simp only [keepB] at h
    split at h
    case h_2 => cases h
    rename_i v' hv'
    split at h
    case h_2 => cases h
    rename_i vs2 new2 h2
    cases h
    obtain ⟨q1, q2, q3⟩ := ih _ _ _ h2 hρ hH hl
    refine ⟨by simp [q1], fun j v a u hv ha hr => ?_, q3⟩
    cases j with
    | succ j => exact q2 j v a u (by simpa using hv) (by simpa using ha) hr
    | zero =>
      simp at hv ha
      subst hv; subst ha
      exact ((settle_both L 100000).1 true _ _ u hv' hr).1

end Go.Proofs.YtobejienmopklaaGreatDoor.Ev

/- The end of a call, and calls. -/
namespace Go.Proofs.YtobejienmopklaaGreatDoor.Ev
set_option linter.unusedVariables false
set_option linter.unnecessarySimpa false
set_option linter.unusedSimpArgs false
variable {C : Cfg} {ρ ρ' : Rho} {H H1 H' : Heap} {w : World} {n0 : Nat}

theorem nodup_pos {ps : List (Nat × Nat)} (h : (ps.map (·.1)).Nodup) {i j : Nat} {p q : Nat × Nat} (hp : ps[i]? = some p) (hq : ps[j]? = some q) (he : p.1 = q.1) : i = j := by
  have h1 : (ps.map (·.1))[i]? = some p.1 := by simp [hp]
  have h2 : (ps.map (·.1))[j]? = some p.1 := by simp [hq, he]
  have hi := (List.getElem?_eq_some_iff.1 h1).1
  have hj := (List.getElem?_eq_some_iff.1 h2).1
  exact (List.getElem?_inj hi h).1 (h1.trans h2.symm)

/-- What a call keeps, all at once. -/
theorem keepAll_ok {vs vs' : List AV} {new : Heap} (hr : HR ρ H w) (hn : n0 ≤ H.len) (hlow : ∀ id o, id < n0 → H.get id = some o → ORB (· < n0) o) (h : keepAll H n0 vs = some (vs', new)) :
    ∃ ρ', Tra (fun i => i < n0 ∧ H.has i) ρ H w ρ' new w ∧ HR ρ' new w ∧ n0 ≤ new.len ∧ (∀ i, i < n0 → new.sl i = H.sl i) ∧ vs'.length = vs.length ∧ ∀ (j : Nat) v a u, vs[j]? = some v → vs'[j]? = some a → AVR ρ H w v u → AVR ρ' new w a u := by
  unfold keepAll at h
  split at h
  case h_2 => cases h
  rename_i ks H1 hA
  obtain ⟨ps, kl, a1, a2, a3, a4⟩ := keepA_ok vs H ks H1 hA
  obtain ⟨b1, b2⟩ := keepB_len vs ks ps _ _ _ kl h
  have tl : (H.trunc n0).len = n0 := by cases H; rfl
  rw [tl] at b1 b2
  have olds : ∀ i, i < n0 → new.sl i = H.sl i := by
    intro i hi
    rw [b2 i hi, Heap.sl_trunc _ _ hn, if_pos hi]
  have old : ∀ i, i < n0 → new.get i = H.get i := by
    intro i hi
    rw [Heap.get_sl, olds i hi, Heap.get_sl]
  let ρ' : Rho := ⟨fun i => if i < n0 then ρ i else match ps[i - n0]? with
    | some p => ((ρ p.1).1, (ρ p.1).2 + p.2)
    | none => (0, 0), ρ.res⟩
  have ρold : ∀ i, i < n0 → ρ' i = ρ i := fun i hi => by simp [ρ', hi]
  have ρnew : ∀ (q : Nat) (p : Nat × Nat), ps[q]? = some p → ρ' (n0 + q) = ((ρ p.1).1, (ρ p.1).2 + p.2) := fun q p hp => by
    show (if n0 + q < n0 then _ else _) = _
    rw [if_neg (by omega), Nat.add_sub_cancel_left, hp]
  have pos : ∀ i o, new.get i = some o → n0 ≤ i → ∃ p, ps[i - n0]? = some p := by
    intro i o hg hi
    have := Heap.lt_of_get hg
    exact ⟨_, List.getElem?_eq_getElem (show i - n0 < ps.length by omega)⟩
  have own : ∀ b, Held ρ' new b → (∃ i o, i < n0 ∧ H.get i = some o ∧ o ≠ .dead ∧ (ρ i).1 = b) ∨ ∃ (q : Nat) (p : Nat × Nat), ps[q]? = some p ∧ (ρ p.1).1 = b := by
    rintro b ⟨i, o, g1, g2, g3⟩
    rcases Nat.lt_or_ge i n0 with hi | hi
    · rw [old i hi] at g1
      rw [ρold i hi] at g3
      exact .inl ⟨i, o, hi, g1, g2, g3⟩
    · obtain ⟨p, hp⟩ := pos i o g1 hi
      have := ρnew _ _ hp
      rw [show n0 + (i - n0) = i by omega] at this
      rw [this] at g3
      exact .inr ⟨_, p, hp, g3⟩
  have T : Tra (fun i => i < n0 ∧ H.has i) ρ H w ρ' new w := by
    refine ⟨⟨fun i hi => hi.2.elim fun o ho => ⟨o, by rw [old i hi.1]; exact ho⟩, fun i hi => ρold i hi.1, fun i o hi g1 g2 => ⟨o, by rw [← old i hi.1]; exact g1, .refl g2⟩, fun b _ ho ho' => ?_, fun _ _ _ => rfl, fun b carr e fr hb => ⟨carr, fr, hb, rfl⟩, Nat.le_refl _, rfl, rfl, rfl⟩, rfl, fun _ _ => rfl⟩
    rcases ho' with ho' | ho'
    · exact ho (.inl ho')
    rcases own b ho' with ⟨i, o, _, g1, g2, g3⟩ | ⟨q, p, hp, g3⟩
    · exact ho (.inr ⟨i, o, g1, g2, g3⟩)
    · obtain ⟨_, o, g1, g2⟩ := kl.live p (List.mem_of_getElem? hp)
      exact ho (.inr ⟨p.1, o, g1, g2, g3⟩)
  have L : Lets n0 ρ H H1 w ρ' new := by
    refine ⟨hr, T, a2, fun i o hi g1 g2 ho => ?_⟩
    rcases ho with ho | ho
    · exact hr.apart i o (a2 _ _ g1 g2) g2 ho
    rcases own _ ho with ⟨i2, o2, k1, k2, k3, k4⟩ | ⟨q, p, hp, k4⟩
    · have := hr.inj _ _ _ _ k2 k3 (a2 _ _ g1 g2) g2 k4
      omega
    · obtain ⟨_, o2, k2, k3⟩ := kl.live p (List.mem_of_getElem? hp)
      have := hr.inj _ _ _ _ k2 k3 (a2 _ _ g1 g2) g2 k4
      subst this
      exact g2 (a3 p (List.mem_of_getElem? hp) o g1)
  obtain ⟨c1, c2, c3⟩ := keepB_ok L vs ks ps _ _ _ kl h (fun q p hp => by rw [tl]; exact ρnew q p hp) (fun i _ _ => rfl) (Nat.le_refl _)
  rw [tl] at c3
  refine ⟨ρ', T, ⟨fun i e ex wc fz cs hg => ?_, fun i wc es cl hg => ?_, fun i j o o' g1 g2 g3 g4 g5 => ?_, hr.res, fun i o g1 g2 hres => ?_⟩, by omega, olds, c1, c2⟩
  · rcases Nat.lt_or_ge i n0 with hi | hi
    · rw [old i hi] at hg
      obtain ⟨carr, lo, hi', k1, k2, k3, k4, k5⟩ := hr.row _ _ _ _ _ _ hg
      rw [ρold i hi]
      exact ⟨carr, lo, hi', k1, k2, k3, k4, fun j a ha => let ⟨v, m1, m2⟩ := k5 j a ha; ⟨v, m1, m2.tra T ((hlow _ _ hi hg).and (hr.orb hg) j a ha)⟩⟩
    · obtain ⟨e2, fz2, cs2, he, k⟩ := c3 i _ hi hg
      cases he
      exact k
  · rcases Nat.lt_or_ge i n0 with hi | hi
    · rw [old i hi] at hg
      obtain ⟨ces, k1, k2, k3⟩ := hr.map _ _ _ _ hg
      rw [ρold i hi]
      exact ⟨ces, k1, k2, fun j k v b hb => let ⟨e, m1, m2, m3, m4⟩ := k3 j k v b hb; ⟨e, m1, m2.tra T ((hlow _ _ hi hg).and (hr.orb hg) j k v b hb).1, m3.tra T ((hlow _ _ hi hg).and (hr.orb hg) j k v b hb).2, m4⟩⟩
    · obtain ⟨e2, fz2, cs2, he, k⟩ := c3 i _ hi hg
      cases he
  · have mixed : ∀ i j o o', i < n0 → n0 ≤ j → new.get i = some o → o ≠ .dead → new.get j = some o' → (ρ' i).1 = (ρ' j).1 → False := by
      intro i j o o' hi hj g1 g2 g3 g5
      obtain ⟨p, hp⟩ := pos j o' g3 hj
      have e1 := ρnew _ _ hp
      rw [show n0 + (j - n0) = j by omega] at e1
      rw [e1, ρold i hi] at g5
      obtain ⟨hp1, o2, k2, k3⟩ := kl.live p (List.mem_of_getElem? hp)
      rw [old i hi] at g1
      have := hr.inj _ _ _ _ g1 g2 k2 k3 g5
      omega
    rcases Nat.lt_or_ge i n0 with hi | hi
    · rcases Nat.lt_or_ge j n0 with hj | hj
      · rw [old i hi] at g1
        rw [old j hj] at g3
        rw [ρold i hi, ρold j hj] at g5
        exact hr.inj _ _ _ _ g1 g2 g3 g4 g5
      · exact (mixed i j o o' hi hj g1 g2 g3 g5).elim
    · rcases Nat.lt_or_ge j n0 with hj | hj
      · exact (mixed j i o' o hj hi g3 g4 g1 g5.symm).elim
      · obtain ⟨p, hp⟩ := pos i o g1 hi
        obtain ⟨q, hq⟩ := pos j o' g3 hj
        have e1 := ρnew _ _ hp
        have e2 := ρnew _ _ hq
        rw [show n0 + (i - n0) = i by omega] at e1
        rw [show n0 + (j - n0) = j by omega] at e2
        rw [e1, e2] at g5
        obtain ⟨_, o2, k2, k3⟩ := kl.live p (List.mem_of_getElem? hp)
        obtain ⟨_, o3, k4, k5⟩ := kl.live q (List.mem_of_getElem? hq)
        have := nodup_pos a4 hp hq (hr.inj _ _ _ _ k2 k3 k4 k5 g5)
        omega
  · rcases own _ ⟨i, o, g1, g2, rfl⟩ with ⟨i2, o2, k1, k2, k3, k4⟩ | ⟨q, p, hp, k4⟩
    · rw [← k4] at hres; exact hr.apart _ _ k2 k3 hres
    · obtain ⟨_, o2, k2, k3⟩ := kl.live p (List.mem_of_getElem? hp)
      rw [← k4] at hres; exact hr.apart _ _ k2 k3 hres

end Go.Proofs.YtobejienmopklaaGreatDoor.Ev

/- Calls. -/
namespace Go.Proofs.YtobejienmopklaaGreatDoor.Ev
set_option linter.unusedVariables false
set_option linter.unnecessarySimpa false
set_option linter.unusedSimpArgs false
variable {C : Cfg} {ρ ρ' : Rho} {H H1 H' : Heap} {w : World} {n0 : Nat}

theorem results1_ok {as : List AV} {us : Array Value} (hl : us.size = as.length) (h : ∀ (j : Nat) a u, as[j]? = some a → us[j]? = some u → AVR ρ H w a u) : AVR ρ H w (results1 as) (if h : us.size = 1 then us[0] else .tuple us) := by
  match as, hl, h with
  | [], hl, h =>
    have : us = #[] := Array.eq_empty_of_size_eq_zero hl
    subst this
    exact .tup _ _ rfl (by simp)
  | [a], hl, h =>
    have hs : us.size = 1 := hl
    rw [dif_pos hs]
    exact h 0 a _ rfl (by simp [hs])
  | a :: b :: as, hl, h =>
    have hs : ¬ (us.size = 1) := by rw [hl]; simp
    rw [dif_neg hs]
    exact .tup _ _ hl h

theorem leave_ok {nf : Bool} {ρ0 ρ1 : Rho} {H0 H1 : Heap} {w0 w1 : World} {l low0 : Nat} {as : List AV} {us : Array Value} (h0 : HR ρ0 H0 w0) (s : Stp ρ0 H0 1000000000 w0 ρ1 H1 l w1)
    (hl : us.size = as.length) (h : ∀ (j : Nat) a u, as[j]? = some a → us[j]? = some u → AVR ρ1 H1 w1 a u) :
    ∃ ρ' v H' low', leave nf H1 l H0.len low0 as = .mk v H' low' ∧ Stp ρ0 H0 low0 w0 ρ' H' low' w1 ∧ AVR ρ' H' w1 v (if h : us.size = 1 then us[0] else .tuple us) := by
  have hlow : Low H0.len H0 low0 H1 (cnd (Nat.blt l low0) l low0) := by
    have e : cnd (Nat.blt l low0) l low0 ≤ low0 ∧ cnd (Nat.blt l low0) l low0 ≤ l := by
      rw [cnd_eq]; split
      · rename_i hh; simp [Nat.blt_eq] at hh; omega
      · rename_i hh; simp [Nat.blt_eq] at hh; omega
    exact ⟨e.1, fun n h1 h2 h3 => s.low.2 n (Nat.le_trans h1 e.2) h2 h3⟩
  have plainCase : ∃ ρ' v H' low', (R.mk (results1 as) H1 (cnd (Nat.blt l low0) l low0)) = .mk v H' low' ∧ Stp ρ0 H0 low0 w0 ρ' H' low' w1 ∧ AVR ρ' H' w1 v (if h : us.size = 1 then us[0] else .tuple us) :=
    ⟨ρ1, _, _, _, rfl, ⟨s.tra, s.hr, hlow, s.len, s.wle, s.hole⟩, results1_ok hl h⟩
  unfold leave
  simp only
  rw [cnd_eq (nf || Nat.blt l H0.len)]
  split
  · exact plainCase
  · rename_i hn
    simp only [Bool.or_eq_true, not_or, Bool.not_eq_true] at hn
    have hll : H0.len ≤ l := by
      rcases Nat.lt_or_ge l H0.len with h1 | h1
      · have h2 : Nat.blt l H0.len = true := by simpa [Nat.blt_eq] using h1
        rw [hn.2] at h2; cases h2
      · exact h1
    split
    · rename_i r new hk
      obtain ⟨ρ', T, hr', nl, old, len, hv⟩ := keepAll_ok s.hr s.len (s.low.2 H0.len hll (Nat.le_refl _) (fun id o _ hg => (h0.orb hg).mono fun i hi => Heap.lt_of_has hi)) hk
      refine ⟨ρ', _, _, _, rfl, ⟨s.tra.trans T (fun i h => ⟨Heap.lt_of_has h, s.tra.len i h⟩), hr', ⟨hlow.1, fun n h1 h2 h3 i o hi hg => ?_⟩, nl, fun i o hg => ?_, fun i hi hh => (old i hi).trans (s.hole i hi hh)⟩, results1_ok (by rw [hl, len]) fun j a u ha hu => ?_⟩
      · rw [Heap.get_sl, old i (Nat.lt_of_lt_of_le hi h2), ← Heap.get_sl] at hg
        exact hlow.2 n h1 h2 h3 i o hi hg
      · obtain ⟨o', h1, h2⟩ := s.wle i o hg
        exact ⟨o', by rw [Heap.get_sl, old i (Heap.lt_of_get hg), ← Heap.get_sl]; exact h1, h2⟩
      · have hlt := (List.getElem?_eq_some_iff.1 ha).1
        obtain ⟨b, hb⟩ : ∃ b, as[j]? = some b := ⟨_, List.getElem?_eq_getElem (by omega)⟩
        exact hv j b a u hb ha (h j b u hb hu)
    · exact plainCase

def resF (tmps : Array Value) : ResultVar → Sem Value
  | .tmp t => pure (tmps.getD t Go.undef)
  | .cell x t => do loadVar t (← asAddr (tmps.getD x Go.undef))
theorem results_eq (fn : Func) (tmps : Array Value) : results fn tmps = (do
    let vs ← fn.results.mapM (resF tmps)
    pure (if h : vs.size = 1 then vs[0] else .tuple vs)) := rfl

/-- the results that a function's end reads -/
theorem res_ok {env : Env} {a : Act} (h : ER C ρ H w env a.tmps) (hr : HR ρ H w) : ∀ (l : List ResultVar) (as : List AV), resA C.P l env H = some as →
    ∃ us : List Value, (l.mapM (resF a.tmps)).run C.P w = .ok us w ∧ us.length = as.length ∧ ∀ (j : Nat) b u, as[j]? = some b → us[j]? = some u → AVR ρ H w b u := by
  intro l
  induction l with
  | nil => intro as he; simp [resA] at he; subst he; exact ⟨[], by simp, rfl, by simp⟩
  | cons r l ih =>
    intro as he
    simp only [resA] at he
    obtain ⟨v, h1, he⟩ := bnd_eq.1 he
    obtain ⟨as2, h2, he⟩ := bnd_eq.1 he
    cases he
    obtain ⟨us, i1, i2, i3⟩ := ih as2 h2
    have fin : ∀ u, AVR ρ H w v u → (resF a.tmps r).run C.P w = .ok u w → ∃ us : List Value, ((r :: l).mapM (resF a.tmps)).run C.P w = .ok us w ∧ us.length = (v :: as2).length ∧ ∀ (j : Nat) b u, (v :: as2)[j]? = some b → us[j]? = some u → AVR ρ H w b u := by
      intro u hu hrun
      refine ⟨u :: us, ?_, by simp [i2], fun j b x hb hx => ?_⟩
      · rw [List.mapM_cons]
        simp only [Sem.run_bind, hrun, Result.andThen_ok, i1, Sem.run_pure]
      · cases j with
        | zero => simp at hb hx; subst hb; subst hx; exact hu
        | succ j => exact i3 j b x (by simpa using hb) (by simpa using hx)
    cases r with
    | tmp t =>
      have hv : v = (Tr.get env t).getD .undef := by
        simp only at h1
        cases hg : Tr.get env t with
        | none => rw [hg] at h1; cases h1; rfl
        | some x => rw [hg] at h1; cases h1; rfl
      exact fin _ (by rw [hv]; exact h.slot t) rfl
    | cell x t =>
      simp only at h1
      split at h1
      case h_2 => cases h1
      rename_i ad had
      obtain ⟨d, h3, h4⟩ := bnd_eq.1 h1
      have hsl := h.slot x
      rw [had] at hsl
      simp only [Option.getD_some] at hsl
      obtain ⟨u, r1, r2⟩ := load_ok (P := C.P) (S0 := fun _ => True) (nid := 0) hr hsl h3
      obtain ⟨v', rd, wr, new⟩ := d
      cases h4
      have hw : wr = [] ∧ new = none := by
        cases ad <;> simp only [loadA] at h3 <;> try (cases h3; done)
        · split at h3
          · obtain ⟨y, _, q⟩ := bnd_eq.1 h3; cases q; exact ⟨rfl, rfl⟩
          · cases h3
        · obtain ⟨y, _, q⟩ := bnd_eq.1 h3; cases q; exact ⟨rfl, rfl⟩
      obtain ⟨rfl, rfl⟩ := hw
      refine fin u r2.2 ?_
      have hp : ∃ p, a.tmps.getD x Go.undef = .pointer (some p) := by
        generalize a.tmps.getD x Go.undef = ux at hsl
        cases ad <;> simp only [loadA] at h3 <;> try (cases h3; done)
        · cases hsl; exact ⟨_, rfl⟩
        · cases hsl; exact ⟨_, rfl⟩
      obtain ⟨p, hp⟩ := hp
      rw [hp] at r1
      simp only [resF, hp]
      simpa [Instr.loadAt, Instr.sureAddr, asAddr] using r1

end Go.Proofs.YtobejienmopklaaGreatDoor.Ev

/- Calls, and the evaluator at any fuel. -/
namespace Go.Proofs.YtobejienmopklaaGreatDoor.Ev
set_option linter.unusedVariables false
set_option linter.unnecessarySimpa false
set_option linter.unusedSimpArgs false
variable {C : Cfg} {D : List Deferred} {ρ : Rho} {H : Heap} {w : World}

theorem envOf_get : ∀ (as : List AV) (n : Nat) (t : Env) (i : Nat), Tr.get (envOf as n t) i = if n ≤ i ∧ i < n + as.length then as[i - n]? else Tr.get t i := by
  intro as
  induction as with
  | nil => intro n t i; simp [envOf]; intro h1 h2; omega
  | cons a as ih =>
    intro n t i
    have e := Tr.get_set t n i a
    unfold Tr.set at e
    simp only [envOf, ih, e, List.length_cons, Nat.succ_eq_add_one]
    by_cases hi : i = n
    · subst hi
      rw [if_neg (by omega), if_pos rfl, if_pos (by omega)]; simp
    · rw [if_neg hi]
      by_cases h2 : n + 1 ≤ i ∧ i < n + 1 + as.length
      · rw [if_pos h2, if_pos (by omega), show i - n = (i - (n + 1)) + 1 by omega, List.getElem?_cons_succ]
      · rw [if_neg h2, if_neg (by omega)]

theorem onR2_some {s : Option S} {k : Ex → Env → Heap → Nat → Option R} {r : R} (h : evCall.onR2 s k = some r) : ∃ x env H low, s = some ⟨x, env, H, low⟩ ∧ k x env H low = some r := by
  unfold evCall.onR2 at h
  obtain ⟨⟨x, env, H, low⟩, h1, h2⟩ := bnd_eq.1 h
  exact ⟨x, env, H, low, h1, h2⟩

theorem evCall_ok (hprim : PrimOK C) (hname : ∀ (f : FuncId) (fn : Func), C.P.funcs[f]? = some fn → fn.name ≠ "runtime.NumGoroutine") {call : CallF} {loop : CodeN} (hc : CallOK C call) (hl : ∀ f nt, LoopOK C f nt (loop f nt)) (hd : ∀ f nt, DrawOK C f nt call) (hext : ∀ f g, C.ext f = some g → CallAt C f (g call))
    (hregs : ∀ (f : FuncId) (fn : Func) body, C.P.funcs[f]? = some fn → fn.body = some body → regsB C f body = true) :
    CallOK C (evCall C call loop) := by
  intro f args H low r h
  unfold evCall at h
  split at h
  case h_1 g hg => exact hext f g hg args H low r h
  split at h
  case h_2 => cases h
  rename_i run res nt hfn
  obtain ⟨hlen, h⟩ := cnd_some.1 h
  simp only [Nat.ble_eq] at hlen
  obtain ⟨x, env, H', l, h1, h2⟩ := onR2_some h
  unfold fnOf at hfn
  split at hfn
  case h_2 => cases hfn
  rename_i fn hf
  split at hfn
  case h_2 => cases hfn
  rename_i body hb
  cases hfn
  refine ⟨⟨fn, hf, by rw [hb]; rfl, hname f fn hf⟩, fun ρ w vals hr hg ha => ?_⟩
  obtain ⟨ha1, ha2⟩ := ha
  have hst : St C fn.ntmps [] ρ H w (envOf args 0 .leaf) { tmps := vals.toArray ++ Array.replicate (fn.ntmps - vals.toArray.size) Go.undef, defers := [] } := by
    refine ⟨hr, ⟨fun t => ?_, hg, hprim⟩, by simp; omega, rfl⟩
    rw [envOf_get, Tr.get_leaf]
    simp only [Nat.zero_le, true_and, Nat.zero_add, Nat.sub_zero, Array.getD_eq_getD_getElem?]
    by_cases ht : t < args.length
    · rw [if_pos ht]
      have e1 : args[t]? = some (args[t]'ht) := List.getElem?_eq_getElem ht
      have e2 : vals[t]? = some (vals[t]'(by omega)) := List.getElem?_eq_getElem (by omega)
      rw [e1, Array.getElem?_append_left (by simp; omega)]
      simp only [List.getElem?_toArray, e2, Option.getD_some]
      exact ha2 t _ _ e1 e2
    · rw [if_neg ht]
      rw [Array.getElem?_append_right (by simp; omega), Array.getElem?_replicate]
      split
      · exact .undef
      · exact .undef
  refine calls_of_wp hf hb (wp_mono (code_ok hc (hl _ _) (hd _ _) body (hregs f fn body hf hb) ρ H 1000000000 w _ _ _ h1 hst) fun e a' w' p => ?_)
  obtain ⟨ρ', p1, p2, p3⟩ := p
  have main : (bnd (resA C.P fn.results.toList env H') fun vs => some (leave (C.nf f) H' l H.len low vs)) = some r → a'.defers = [] ∧ ∃ v, (results fn a'.tmps).run C.P w' = .ok v w' ∧
      ∃ ρ' v' H' low', r = .mk v' H' low' ∧ Stp ρ H low w ρ' H' low' w' ∧ AVR ρ' H' w' v' v := by
    intro h3
    obtain ⟨as, h4, h5⟩ := bnd_eq.1 h3
    cases h5
    obtain ⟨us, q1, q2, q3⟩ := res_ok p2.er p2.hr _ as h4
    obtain ⟨ρ2, v2, H2, l2, e2, s2, r2⟩ := leave_ok (nf := C.nf f) (low0 := low) (us := us.toArray) hr p1 (by simpa using q2) (fun j b u hb hu => q3 j b u hb (by simpa using hu))
    refine ⟨p2.defers, _, ?_, ρ2, v2, H2, l2, e2, s2, r2⟩
    rw [results_eq]
    have : (fn.results.mapM (resF a'.tmps)).run C.P w' = .ok us.toArray w' := by
      rw [← Array.toArray_toList (xs := fn.results)]
      simp only [List.mapM_toArray]
      simp [q1]
    simp only [Sem.run_bind, this, Result.andThen_ok, Sem.run_pure]
  cases x with
  | exit i => cases h2
  | normal => cases e <;> first | exact p3.elim | exact main h2
  | ret => cases e <;> first | exact p3.elim | exact main h2
  | panic v =>
    cases h2
    cases e <;> first | exact p3.elim | skip
    obtain ⟨u, rfl, p4⟩ := p3
    have e1 : minN l low ≤ low ∧ minN l low ≤ l := by
      unfold minN; rw [cnd_eq]; split
      · rename_i hh; simp [Nat.blt_eq] at hh; omega
      · rename_i hh; simp [Nat.blt_eq] at hh; omega
    exact ⟨p2.defers, ρ', v, u, H', minN l low, rfl, rfl, ⟨p1.tra, p1.hr, ⟨e1.1, fun n h1 h2 h3 => p1.low.2 n (Nat.le_trans h1 e1.2) h2 h3⟩, p1.len, p1.wle, p1.hole⟩, p4⟩

theorem ev_ok (hprim : PrimOK C) (hname : ∀ (f : FuncId) (fn : Func), C.P.funcs[f]? = some fn → fn.name ≠ "runtime.NumGoroutine") (hdraw : ∀ call, CallOK C call → ∀ f nt, DrawOK C f nt call)
    (hext : ∀ f g, C.ext f = some g → ∀ call, CallOK C call → CallAt C f (g call))
    (hregs : ∀ (f : FuncId) (fn : Func) body, C.P.funcs[f]? = some fn → fn.body = some body → regsB C f body = true) : ∀ n, CallOK C (M.call (ev C n)) ∧ ∀ f nt, LoopOK C f nt (M.loop (ev C n) f nt) := by
  intro n
  induction n with
  | zero => exact ⟨fun f args H low r h => (by cases h), fun f nt b env H low s _ h => (by cases h)⟩
  | succ n ih => exact ⟨evCall_ok hprim hname ih.1 ih.2 (hdraw _ ih.1) (fun f g hg => hext f g hg _ ih.1) hregs, fun f nt => loop_ok ih.1 (ih.2 f nt) (hdraw _ ih.1 f nt)⟩

end Go.Proofs.YtobejienmopklaaGreatDoor.Ev
