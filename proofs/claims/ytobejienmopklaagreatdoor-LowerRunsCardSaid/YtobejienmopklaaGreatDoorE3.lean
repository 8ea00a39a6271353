/- LowerRuns: operations that only compute. Conditions: none beyond the card's own. -/
import Derived.Test.YtobejienmopklaaGreatDoorE2
import Derived.Laws.Cells
import Derived.Calls
import Derived.Laws.Strings
/- Types, parts, constants, operands: what the evaluator works out is what the model works out. -/
namespace Go.Proofs.YtobejienmopklaaGreatDoor.Ev
set_option linter.unusedSimpArgs false
variable {P : Program} {ρ : Rho} {H : Heap} {w : World}

theorem addr_add (b o n : Nat) : (⟨b, o, none⟩ : Addr).add n = ⟨b, o + n, none⟩ := by unfold Addr.add; split <;> simp_all

theorem run_und {t : TypeId} {d : TypeDesc} (h : P.underlying t = some d) (w : World) : (underlying t).run P w = .ok d w := run_underlying h w
theorem run_info {t : TypeId} {i : TypeInfo} (h : P.info? t = some i) (w : World) : (typeInfo t).run P w = .ok i w := by simp [typeInfo, h]
theorem run_size {t : TypeId} {n : Nat} (h : sizeT P t = some n) (w : World) : (sizeOf t).run P w = .ok n w := by
  unfold sizeT at h
  cases hi : P.info? t with
  | none => rw [hi] at h; cases h
  | some i => rw [hi] at h; cases h; simp [sizeOf, run_info hi]

theorem absVL_ok : ∀ n, (∀ v a, absV n v = some a → AVR ρ H w a v) ∧ (∀ vs as, absL n vs = some as → as.length = vs.length ∧ ∀ (j : Nat) a v, as[j]? = some a → vs[j]? = some v → AVR ρ H w a v) := by
  intro n
  induction n with
  | zero => exact ⟨fun v a h => by simp [absV] at h, fun vs as h => by simp [absL] at h⟩
  | succ n ih =>
    refine ⟨fun v a h => ?_, fun vs as h => ?_⟩
    · unfold absV at h
      split at h
      · cases h; exact .bool _
      · cases h; exact .int _ _
      · cases h; exact .str _ _ rfl
      · cases h; exact .nilp
      · cases h
        exact .sl true 0 [] none 0 0 0 (fun _ _ => Go.undef) (by simp) (by simp) (by simp) (by simp) (by simp) (by simp) (by simp)
      · cases h; exact .nilm
      · cases h; exact .nilf
      · cases h; exact .nili
      · rename_i f fs cs
        split at h
        · rename_i a1 a2 h1 h2
          cases h
          obtain ⟨l1, k1⟩ := ih.2 _ _ h1
          obtain ⟨l2, k2⟩ := ih.2 _ _ h2
          exact .fn _ _ _ _ _ (by simpa using l1.symm) (by simpa using l2.symm) (fun j a v ha hv => k1 j a v ha (by simpa using hv)) (fun j a v ha hv => k2 j a v ha (by simpa using hv))
        · cases h
      · split at h
        · rename_i h1; cases h; exact .iface _ _ _ (ih.1 _ _ h1)
        · cases h
      · split at h
        · rename_i h1
          cases h
          obtain ⟨l1, k1⟩ := ih.2 _ _ h1
          exact .agg _ _ (by simpa using l1.symm) (fun j a v ha hv => k1 j a v ha (by simpa using hv))
        · cases h
      · split at h
        · rename_i h1
          cases h
          obtain ⟨l1, k1⟩ := ih.2 _ _ h1
          exact .tup _ _ (by simpa using l1.symm) (fun j a v ha hv => k1 j a v ha (by simpa using hv))
        · cases h
      · cases h
    · cases vs with
      | nil => simp [absL] at h; subst h; simp
      | cons v vs =>
        simp only [absL] at h
        split at h
        · rename_i a1 a2 h1 h2
          cases h
          obtain ⟨l2, k2⟩ := ih.2 _ _ h2
          refine ⟨by simp [l2], fun j a u ha hu => ?_⟩
          cases j with
          | zero => simp at ha hu; subst ha; subst hu; exact ih.1 _ _ h1
          | succ j => exact k2 j a u (by simpa using ha) (by simpa using hu)
        · cases h
theorem absV_ok {n : Nat} {v : Value} {a : AV} (h : absV n v = some a) : AVR ρ H w a v := (absVL_ok n).1 v a h

/- ### cells of a value -/
theorem AVR.cells {a : AV} {v : Value} (h : AVR ρ H w a v) : v.cells.size = a.cells.length ∧ ∀ (j : Nat) x u, a.cells[j]? = some x → v.cells[j]? = some u → AVR ρ H w x u := by
  cases h with
  | agg cells vs h1 h2 => exact ⟨h1, h2⟩
  | _ =>
    refine ⟨rfl, fun j x u hx hu => ?_⟩
    cases j with
    | zero => simp [AV.cells, Value.cells] at hx hu; subst hx; subst hu; constructor <;> assumption
    | succ j => simp [AV.cells] at hx

theorem zeroT_ok {t : TypeId} {z : AV} (h : zeroT P t = some z) : ∃ zv, (∀ w, (zeroValue t).run P w = .ok zv w) ∧ (∀ i, P.info? t = some i → i.zero = some zv) ∧ ∀ ρ H w, AVR ρ H w z zv := by
  unfold zeroT at h
  split at h
  · rename_i i hi
    split at h
    · rename_i zv hz
      exact ⟨zv, fun w => by simp [zeroValue, run_info hi, hz], fun i' hi' => by rw [hi] at hi'; cases hi'; exact hz, fun ρ H w => absV_ok h⟩
    · cases h
  · cases h

/- ### a part of an aggregate -/
theorem partA_ok {t : TypeId} {cs : List AV} {vs : Array Value} {off : Nat} {a : AV} (hl : vs.size = cs.length)
    (hc : ∀ (j : Nat) x u, cs[j]? = some x → vs[j]? = some u → AVR ρ H w x u) (h : partA P t cs off = some a) :
    ∃ v, (part t vs off).run P w = .ok v w ∧ AVR ρ H w a v := by
  have aggcase : ∀ d, P.underlying t = some d → (d matches .struct _ | .array _ _) = true → (bnd (sizeT P t) fun n => bnd (cut cs off n) fun r => some (AV.agg r)) = some a →
      ∃ v, (part t vs off).run P w = .ok v w ∧ AVR ρ H w a v := by
    intro d hd hm h
    obtain ⟨n, hn, h⟩ := bnd_eq.1 h
    obtain ⟨r, hr, h⟩ := bnd_eq.1 h
    cases h
    have hlen := cut_len hr
    have hle := (cut_eq.1 hr).1
    refine ⟨.agg (vs.extract off (off + n)), ?_, .agg _ _ ?_ fun j x u hx hu => ?_⟩
    · have e1 : (isAgg t).run P w = .ok true w := by
        cases d <;> simp at hm <;> simp [isAgg, run_und hd]
      simp [part, e1, run_size hn]
    · simp; omega
    · have hj : j < n := by rw [← hlen]; exact (List.getElem?_eq_some_iff.1 hx).1
      rw [cut_get hr j hj] at hx
      refine hc _ _ _ hx ?_
      rw [← hu]; simp [Array.getElem?_extract]; intro; omega
  have rest : ∀ d, P.underlying t = some d → (d matches .struct _ | .array _ _) = false → nth cs off = some a → ∃ v, (part t vs off).run P w = .ok v w ∧ AVR ρ H w a v := by
    intro d hu hm h
    rw [nth_eq] at h
    have hlt := (List.getElem?_eq_some_iff.1 h).1
    refine ⟨vs[off]'(by omega), ?_, hc _ _ _ h (by simp [show off < vs.size by omega])⟩
    have e1 : (isAgg t).run P w = .ok false w := by
      cases d <;> first | (simp [isAgg, run_und hu]; done) | (simp at hm; done)
    simp [part, e1, show vs[off]? = some (vs[off]'(by omega)) by simp [show off < vs.size by omega]]
  unfold partA at h
  cases hu : P.underlying t with
  | none => rw [hu] at h; cases h
  | some d =>
    rw [hu] at h
    cases d <;> first | exact aggcase _ hu rfl h | exact rest _ hu rfl h

end Go.Proofs.YtobejienmopklaaGreatDoor.Ev

/- Operations that only compute. -/
namespace Go.Proofs.YtobejienmopklaaGreatDoor.Ev
set_option linter.unusedSimpArgs false
variable {C : Cfg} {ρ : Rho} {H : Heap} {w : World}

/-- functions without a body, by what they give -/
def PrimOK (C : Cfg) : Prop := ∀ fid g, C.prim fid = some g → ∀ (ρ : Rho) (H : Heap) (w : World) (args : List AV) (vals : List Value) (v : AV), vals.length = args.length →
  (∀ (j : Nat) a u, args[j]? = some a → vals[j]? = some u → AVR ρ H w a u) → g args = some v → ∃ u, (callFunc fid vals.toArray).run C.P w = .ok (.value u) w ∧ AVR ρ H w v u

/-- The slots, and the variables at package level that are told. -/
structure ER (C : Cfg) (ρ : Rho) (H : Heap) (w : World) (env : Env) (tmps : Array Value) : Prop where
  slot : ∀ t, AVR ρ H w ((Tr.get env t).getD .undef) (tmps.getD t Go.undef)
  glob : ∀ g cs, C.glob g = some cs → AVR ρ H w (.iptr cs) (.pointer (some ⟨g, 0, none⟩))
  prim : PrimOK C

theorem ER.mono {ρ' : Rho} {H' : Heap} {w' : World} {env : Env} {tmps : Array Value} (h : ER C ρ H w env tmps) (T : Tra H.has ρ H w ρ' H' w') : ER C ρ' H' w' env tmps :=
  ⟨fun t => (h.slot t).mono T, fun g cs hg => (h.glob g cs hg).mono T, h.prim⟩

theorem evO_ok {env : Env} {a : Act} (h : ER C ρ H w env a.tmps) {x : Operand} {v : AV} (hv : evO C x env = some v) : AVR ρ H w v (a.eval x) := by
  cases x with
  | tmp t =>
    have : v = (Tr.get env t).getD .undef := by
      show v = _
      unfold evO at hv
      simp only at hv
      change Option.rec (motive := fun _ => Option AV) (some AV.undef) some (Tr.get env t) = some v at hv
      cases hg : Tr.get env t with
      | none => rw [hg] at hv; cases hv; rfl
      | some u => rw [hg] at hv; cases hv; rfl
    rw [this]; exact h.slot t
  | const c => exact absV_ok hv
  | global g =>
    cases hc : C.glob g with
    | none => simp [evO, hc] at hv
    | some cs => simp [evO, hc] at hv; subst hv; exact h.glob g cs hc
  | func f =>
    unfold evO at hv
    cases hv
    exact .fn f [] [] #[] #[] rfl rfl (by simp) (by simp)

/-- what the run of an operation is to give -/
def Gives (P : Program) (w : World) (ρ : Rho) (H : Heap) (s : Sem Value) (v : AV) : Prop := ∃ u, s.run P w = .ok u w ∧ AVR ρ H w v u

theorem nil_ok {v : AV} {u : Value} {x : AV} {a : Act} {X : Operand} (hx : AVR ρ H w x u) (he : a.eval X = u) (hv : nilA x = some v) {d g t p f} :
    (execOp a.eval ⟨d, .nilCheck X, t, p, f, g⟩).run C.P w = .ok (.value u) w ∧ AVR ρ H w v u := by
  have hxv : v = x := by cases x <;> simp [nilA] at hv <;> exact hv.symm
  subst hxv
  refine ⟨?_, hx⟩
  cases v <;> simp [nilA] at hv <;> cases hx <;> simp [execOp, he]

theorem fieldAddr_ok {s : TypeId} {i : Nat} {x v : AV} {u : Value} (hx : AVR ρ H w x u) (hv : fieldAddrA C.P s i x = some v) : Gives C.P w ρ H (Instr.fieldAt s u i) v := by
  unfold fieldAddrA at hv
  cases hf : fieldT C.P s i with
  | none => rw [hf] at hv; cases hv
  | some f =>
    rw [hf] at hv
    simp only at hv
    cases hz : sizeT C.P f.type with
    | none => rw [hz] at hv; cases hv
    | some z =>
      rw [hz] at hv
      cases z with
      | zero => cases hv
      | succ z =>
        simp only at hv
        unfold fieldT at hf
        split at hf
        · rename_i fs hu
          have hrun : ∀ (ad : Addr), (Instr.fieldAt s (.pointer (some ad)) i).run C.P w = .ok (.pointer (some (ad.add f.offset))) w := by
            intro ad
            simp [Instr.fieldAt, run_und hu, hf, Instr.sureAddr, fieldPlace, run_size hz]
          cases x <;> simp only at hv <;> try (cases hv; done)
          · rw [Nat.now_eq] at hv
            cases hv
            cases hx with
            | ref _ _ p h1 h2 =>
              exact ⟨_, hrun p, .ref _ _ _ h1 (by rw [h2, addr_add]; simp [Nat.add_assoc])⟩
          · cases hv
            cases hx with
            | iptr cells b o us h1 h2 h3 h4 h5 =>
              refine ⟨_, hrun _, ?_⟩
              rw [addr_add, dropN_eq]
              refine .iptr _ _ _ (fun j => us (f.offset + j)) h1 h2 (fun j a ha => ?_) (fun j a ha => ?_) (fun j a ha => ?_)
              · rw [List.getElem?_drop] at ha; have := h3 _ a ha; rwa [← Nat.add_assoc] at this
              · rw [List.getElem?_drop] at ha; exact h4 _ a ha
              · rw [List.getElem?_drop] at ha; exact h5 _ a ha
        · cases hf

theorem field_ok {s : TypeId} {i : Nat} {x v : AV} {u : Value} (hx : AVR ρ H w x u) (hv : fieldA C.P s i x = some v) : Gives C.P w ρ H (Instr.field s u i) v := by
  unfold fieldA at hv
  cases hf : fieldT C.P s i with
  | none => rw [hf] at hv; cases hv
  | some f =>
    rw [hf] at hv
    simp only at hv
    unfold fieldT at hf
    split at hf
    · rename_i fs hu
      cases x <;> simp only at hv <;> try (cases hv; done)
      cases hx with
      | agg cells vs h1 h2 =>
        obtain ⟨r, hr, ha⟩ := partA_ok (w := w) h1 h2 hv
        exact ⟨r, by simp [Instr.field, run_und hu, hf, asAgg, hr], ha⟩
    · cases hf

theorem natOf_ok {x : AV} {n : Nat} {u : Value} (hx : AVR ρ H w x u) (hn : natOf x = some n) : ∃ k, u = .int k (Int.ofNat n) := by
  cases x <;> simp [natOf] at hn
  split at hn
  · cases hn
    rename_i hh
    simp at hh
    obtain ⟨rfl, rfl⟩ := hh
    cases hx
    exact ⟨_, rfl⟩
  · cases hn

theorem indexAddr_ok {t : TypeId} {x ix v : AV} {u ui : Value} (hx : AVR ρ H w x u) (hi : AVR ρ H w ix ui) (hv : indexAddrA C.P t x ix = some v) : Gives C.P w ρ H (Instr.indexAt t u ui) v := by
  unfold indexAddrA at hv
  cases hn : natOf ix with
  | none => rw [hn] at hv; cases hv
  | some n =>
    rw [hn] at hv
    obtain ⟨k, rfl⟩ := natOf_ok hi hn
    simp only at hv
    split at hv
    · rename_i e id off len sz clip hu
      split at hv
      · rename_i z hz
        obtain ⟨hc, hv⟩ := cnd_some.1 hv
        simp [Nat.blt_eq] at hc
        obtain ⟨rfl, hlt⟩ := hc
        rw [Nat.now_eq] at hv
        cases hv
        cases hx with
        | slc _ _ _ _ _ A c h1 h2 h3 h4 h5 =>
          have hA := h4.2 (by omega)
          subst hA
          refine ⟨.pointer (some ((⟨(ρ id).1, (ρ id).2 + off, none⟩ : Addr).add (n * z))), ?_, .ref _ _ _ h1 ?_⟩
          · simp [Instr.indexAt, asIntOf, run_und hu, run_size hz, hlt]
          · rw [addr_add]; simp [Nat.add_assoc]
      · cases hv
    · rename_i e clip sz es hu
      split at hv
      · rename_i z hz
        obtain ⟨hc, hv2⟩ := cnd_some.1 hv
        simp at hc
        subst hc
        obtain ⟨cs, hcs, hv3⟩ := bnd_eq.1 hv2
        cases hv3
        rw [nth_eq] at hcs
        have hlt := (List.getElem?_eq_some_iff.1 hcs).1
        have hne : es ≠ [] := by intro h0; subst h0; simp at hcs
        cases hx with
        | sl _ _ _ A c b o us h1 h2 h3 h4 h5 h6 h7 =>
          obtain ⟨rfl, k2, k3⟩ := h4 hne
          refine ⟨.pointer (some ((⟨b, o, none⟩ : Addr).add (n * z))), ?_, ?_⟩
          · simp [Instr.indexAt, asIntOf, run_und hu, run_size hz, hlt]
          · rw [addr_add]
            exact .iptr _ _ _ (us n) k2 k3 (fun j a ha => h5 n cs j a hcs ha) (fun j a ha => h6 n cs j a hcs ha) (fun j a ha => h7 n cs j a hcs ha)
      · cases hv
    · rename_i m e id off hu
      split at hv
      · rename_i z hz
        obtain ⟨hc, hv⟩ := cnd_some.1 hv
        simp [Nat.blt_eq] at hc
        rw [Nat.now_eq] at hv
        cases hv
        cases hx with
        | ref _ _ p h1 h2 =>
          refine ⟨.pointer (some (p.add (n * z))), ?_, .ref _ _ _ h1 ?_⟩
          · simp [Instr.indexAt, asIntOf, run_und hu, run_size hz, hc, Instr.sureAddr]
          · rw [h2, addr_add]; simp [Nat.add_assoc]
      · cases hv
    · rename_i m e cs hu
      split at hv
      · rename_i z hz
        obtain ⟨hc, hv⟩ := cnd_some.1 hv
        simp [Nat.blt_eq] at hc
        cases hv
        cases hx with
        | iptr cells b o us h1 h2 h3 h4 h5 =>
          refine ⟨.pointer (some ((⟨b, o, none⟩ : Addr).add (n * z))), ?_, ?_⟩
          · simp [Instr.indexAt, asIntOf, run_und hu, run_size hz, hc, Instr.sureAddr]
          · rw [addr_add, dropN_eq]
            refine .iptr _ _ _ (fun j => us (n * z + j)) h1 h2 (fun j a ha => ?_) (fun j a ha => ?_) (fun j a ha => ?_)
            · rw [List.getElem?_drop] at ha; have := h3 _ a ha; rwa [← Nat.add_assoc] at this
            · rw [List.getElem?_drop] at ha; exact h4 _ a ha
            · rw [List.getElem?_drop] at ha; exact h5 _ a ha
      · cases hv
    · cases hv

theorem index_ok {t : TypeId} {x ix v : AV} {u ui : Value} (hx : AVR ρ H w x u) (hi : AVR ρ H w ix ui) (hv : indexA C.P t x ix = some v) : Gives C.P w ρ H (Instr.index t u ui) v := by
  unfold indexA at hv
  cases hn : natOf ix with
  | none => rw [hn] at hv; cases hv
  | some n =>
    rw [hn] at hv
    obtain ⟨k, rfl⟩ := natOf_ok hi hn
    simp only at hv
    split at hv
    · rename_i m e cs hu
      split at hv
      · rename_i z hz
        obtain ⟨hc, hv⟩ := cnd_some.1 hv
        simp [Nat.blt_eq] at hc
        cases hx with
        | agg cells vs h1 h2 =>
          obtain ⟨r, hr, ha⟩ := partA_ok (w := w) h1 h2 hv
          exact ⟨r, by simp [Instr.index, asIntOf, run_und hu, run_size hz, hc, hr], ha⟩
      · cases hv
    · rename_i s hu
      cases hs : nth s n with
      | none => rw [hs] at hv; cases hv
      | some b =>
        rw [hs] at hv
        cases hv
        rw [nth_eq] at hs
        cases hx with
        | str _ bb hb =>
          subst hb
          unfold bytes at hs
          rw [List.getElem?_map] at hs
          obtain ⟨y, hy, rfl⟩ := Option.map_eq_some_iff.1 hs
          have hb : bb[n]? = some y := by
            obtain ⟨h1, h2⟩ := List.getElem?_eq_some_iff.1 hy
            have h3 : n < bb.size := by simpa using h1
            rw [getElem?_pos bb n h3]
            simp at h2; rw [← h2]; rfl
          exact ⟨.int .u8 y.toNat, by simp [Instr.index, asIntOf, run_und hu, hb], .int _ _⟩
    · cases hv

theorem extract_ok {i : Nat} {x v : AV} {u : Value} (hx : AVR ρ H w x u) (hv : extractA i x = some v) : Gives C.P w ρ H (Instr.extract u i) v := by
  cases x <;> simp [extractA] at hv
  rw [nth_eq] at hv
  cases hx with
  | tup cells vs h1 h2 =>
    have hlt := (List.getElem?_eq_some_iff.1 hv).1
    have hk : vs[i]? = some (vs[i]'(by omega)) := by simp [show i < vs.size by omega]
    exact ⟨vs[i]'(by omega), by simp [Instr.extract, hk], h2 _ _ _ hv hk⟩

theorem iface_ok {t : TypeId} {x v : AV} {u : Value} (hx : AVR ρ H w x u) (hv : ifaceA C.P t x = some v) : Gives C.P w ρ H (Instr.makeInterface t u) v := by
  unfold ifaceA at hv
  cases hu : C.P.underlying t with
  | none => rw [hu] at hv; cases hv
  | some d =>
    rw [hu] at hv
    cases d <;> first | (cases hv; done) | (cases hv; exact ⟨.iface t u, by simp [Instr.makeInterface, run_und hu], .iface _ _ _ hx⟩)

end Go.Proofs.YtobejienmopklaaGreatDoor.Ev

/- Comparisons and arithmetic. -/
namespace Go.Proofs.YtobejienmopklaaGreatDoor.Ev
set_option linter.unusedSimpArgs false
variable {C : Cfg} {ρ : Rho} {H : Heap} {w : World}

theorem beq_false {x y : Nat} (h : x ≠ y) : Nat.beq x y = false := by
  cases hb : Nat.beq x y with
  | false => rfl
  | true => exact absurd (Nat.eq_of_beq_eq_true hb) h
theorem beq_self' (x : Nat) : Nat.beq x x = true := by simp

theorem eqL_eq : ∀ a b : List Nat, eqL a b = decide (a = b) := by
  intro a
  induction a with
  | nil => intro b; cases b <;> simp [eqL]
  | cons x a ih =>
    intro b
    cases b with
    | nil => simp [eqL]
    | cons y b =>
      show cnd (Nat.beq x y) (eqL a b) false = _
      rw [ih, cnd_eq]
      by_cases h : x = y
      · subst h; simp
      · rw [beq_false h]; simp [h]

theorem bytes_inj {x y : ByteArray} (h : bytes x = bytes y) : x = y := by
  have h1 : x.data.toList = y.data.toList := by
    unfold bytes at h
    exact (List.map_inj_right (fun a b hab => UInt8.toNat_inj.1 hab)).1 h
  cases x with | mk dx => cases y with | mk dy =>
    simp at h1
    exact congrArg _ (Array.toList_inj.1 (by simpa using h1))

theorem eqL_bytes (x y : ByteArray) : eqL (bytes x) (bytes y) = (x.toList == y.toList) := by
  rw [eqL_eq, ByteArray.toList_eq, ByteArray.toList_eq, Bool.eq_iff_iff]
  simp only [decide_eq_true_eq, beq_iff_eq]
  exact ⟨fun h => by rw [bytes_inj h], fun h => by unfold bytes; rw [h]⟩

theorem ltL_bytes' : ∀ x y : List UInt8, ltL (x.map UInt8.toNat) (y.map UInt8.toNat) = Op.bytesLess x y := by
  intro x
  induction x with
  | nil => intro y; cases y <;> simp [ltL, Op.bytesLess]
  | cons a x ih =>
    intro y
    cases y with
    | nil => simp [ltL, Op.bytesLess]
    | cons b y =>
      show cnd (Nat.blt a.toNat b.toNat) true (cnd (Nat.beq a.toNat b.toNat) (ltL (x.map UInt8.toNat) (y.map UInt8.toNat)) false) = _
      rw [ih, Op.bytesLess, cnd_eq, cnd_eq, Bool.eq_iff_iff]
      by_cases h1 : a < b
      · have : Nat.blt a.toNat b.toNat = true := by simpa [Nat.blt_eq, UInt8.lt_iff_toNat_lt] using h1
        simp [this, h1]
      · have : ¬ (Nat.blt a.toNat b.toNat = true) := by simpa [Nat.blt_eq, UInt8.lt_iff_toNat_lt] using h1
        rw [if_neg this]
        by_cases h2 : a = b
        · subst h2; simp [h1]
        · have h3 : a.toNat ≠ b.toNat := fun e => h2 (UInt8.toNat_inj.1 e)
          rw [beq_false h3]; simp [h1, h2]
theorem ltL_bytes (x y : ByteArray) : ltL (bytes x) (bytes y) = Op.bytesLess x.toList y.toList := by
  rw [ByteArray.toList_eq, ByteArray.toList_eq]; exact ltL_bytes' _ _

theorem eqI_eq (a b : Int) : eqI a b = (a == b) := by
  rw [Bool.eq_iff_iff]
  cases a <;> cases b <;> simp [eqI] <;> omega
theorem ltI_eq (a b : Int) : ltI a b = decide (a < b) := by
  cases a <;> cases b <;> simp only [ltI] <;> rw [Bool.eq_iff_iff] <;> simp [Nat.blt_eq] <;> omega

theorem wrap_i64 {n : Int} (h0 : 0 ≤ n) (h : n < 9223372036854775808) : IntKind.i64.wrap n = n := by
  have e1 : (2 : Int) ^ IntKind.i64.bits = 18446744073709551616 := by decide
  have e2 : (2 : Int) ^ (IntKind.i64.bits - 1) = 9223372036854775808 := by decide
  unfold IntKind.wrap
  simp only [e1, e2]
  rw [Int.emod_eq_of_lt h0 (by omega)]
  rw [if_neg (by simp; intro _; omega)]

theorem addI_eq (k : IntKind) (a b : Int) : addI k a b = some (.int k (k.wrap (a + b))) := by
  unfold addI
  split
  · rename_i a b
    rw [Nat.now_eq, cnd_eq, intA_eq]
    split
    · rename_i h
      simp [Nat.blt_eq] at h
      have e : (Int.ofNat a + Int.ofNat b) = Int.ofNat (a + b) := by simp
      rw [e, wrap_i64 (n := Int.ofNat (a + b)) (Int.natCast_nonneg _) (by show ((a + b : Nat) : Int) < _; omega)]; rfl
    · rfl
  · rw [intA_eq]
theorem subI_eq (k : IntKind) (a b : Int) : subI k a b = some (.int k (k.wrap (a - b))) := by
  unfold subI
  split
  · rename_i a b
    rw [Nat.now_eq, cnd_eq, intA_eq]
    split
    · rename_i h
      simp [Nat.blt_eq] at h
      have e : (Int.ofNat a - Int.ofNat b) = Int.ofNat (a - b) := by simp; omega
      rw [e, wrap_i64 (n := Int.ofNat (a - b)) (Int.natCast_nonneg _) (by show ((a - b : Nat) : Int) < _; omega)]; rfl
    · rfl
  · rw [intA_eq]

theorem intOp_ok {t : TypeId} {op : BinOp} {k k' : IntKind} {a b : Int} {v : AV} (h : intOp op k a k' b = some v) :
    Gives C.P w ρ H (binOp op t (.int k a) (.int k' b)) v := by
  have sh : ∀ o, (o = .shl ∨ o = .shr) → shiftA o k a b = some v → Gives C.P w ρ H (Op.shift o k a k' b) v := by
    intro o ho h
    unfold shiftA at h
    split at h
    · cases h
    · rename_i hb
      rcases ho with rfl | rfl
      · simp only [intA_eq] at h; cases h
        exact ⟨_, by simp only [Op.shift, if_neg hb]; rfl, .int _ _⟩
      · simp only [intA_eq] at h; cases h
        exact ⟨_, by simp only [Op.shift, if_neg hb]; rfl, .int _ _⟩
  cases op <;> simp only [intOp] at h
  case shl => exact sh .shl (.inl rfl) h
  case shr => exact sh .shr (.inr rfl) h
  all_goals
    obtain ⟨hk, h2⟩ := cnd_some.1 h
    clear h
    have h := h2
    clear h2
    have hkk : k = k' := by cases k <;> cases k' <;> first | rfl | (exact absurd hk (by decide))
    subst hkk
    simp only [arith, addI_eq, subI_eq, intA_eq, bitA, eqI_eq, ltI_eq] at h
  case add => cases h; exact ⟨_, by simp [binOp, Op.intArith], .int _ _⟩
  case sub => cases h; exact ⟨_, by simp [binOp, Op.intArith], .int _ _⟩
  case mul => cases h; exact ⟨_, by simp [binOp, Op.intArith], .int _ _⟩
  case quo => split at h
              · cases h
              · rename_i hb; cases h; exact ⟨_, by simp [binOp, Op.intDiv, hb], .int _ _⟩
  case rem => split at h
              · cases h
              · rename_i hb; cases h; exact ⟨_, by simp [binOp, Op.intDiv, hb], .int _ _⟩
  case and => cases h; exact ⟨_, by simp [binOp, Op.intBits], .int _ _⟩
  case or => cases h; exact ⟨_, by simp [binOp, Op.intBits], .int _ _⟩
  case xor => cases h; exact ⟨_, by simp [binOp, Op.intBits], .int _ _⟩
  case andNot => cases h; exact ⟨_, by simp [binOp, Op.intBits], .int _ _⟩
  case eql => cases h; exact ⟨_, by simp [binOp, Op.intCmp], .bool _⟩
  case neq => cases h; exact ⟨_, by simp [binOp, Op.intCmp, bne], .bool _⟩
  case lss => cases h; exact ⟨_, by simp [binOp, Op.intCmp], .bool _⟩
  case leq => cases h; exact ⟨.bool (decide (a ≤ b)), by simp [binOp, Op.intCmp], by rw [show (!decide (b < a)) = decide (a ≤ b) from by rw [Bool.eq_iff_iff]; simp]; exact .bool _⟩
  case gtr => cases h; exact ⟨.bool (decide (a > b)), by simp [binOp, Op.intCmp], .bool _⟩
  case geq => cases h; exact ⟨.bool (decide (a ≥ b)), by simp [binOp, Op.intCmp], by rw [show (!decide (a < b)) = decide (a ≥ b) from by rw [Bool.eq_iff_iff]; simp]; exact .bool _⟩

theorem strOp_ok {t : TypeId} {op : BinOp} {a b : ByteArray} {v : AV} (h : strOp op (bytes a) (bytes b) = some v) :
    Gives C.P w ρ H (binOp op t (.string a) (.string b)) v := by
  cases op <;> simp only [strOp, eqL_bytes, ltL_bytes] at h
  case add =>
    obtain ⟨h1, h⟩ := cnd_some.1 h
    cases h
    have hl : ∀ x : ByteArray, (bytes x).length = x.size := fun x => by simp [bytes]
    rw [hl, hl] at h1
    simp at h1
    refine ⟨.string (a ++ b), ?_, .str _ _ ?_⟩
    · have : ¬ (((a.size + b.size : Nat) : Int) > IntKind.i64.max) := by
        have : IntKind.i64.max = 9223372036854775807 := by decide
        rw [this]; omega
      simp only [binOp, Op.stringOp, if_neg this]; rfl
    · unfold bytes
      have : (a ++ b).data = a.data ++ b.data := by simp
      rw [this]; simp
  all_goals first
    | (cases h; exact ⟨_, by simp only [binOp, Op.stringOp]; rfl, .bool _⟩)
    | cases h

theorem unA_ok {op : UnOp} {x v : AV} {u : Value} (hx : AVR ρ H w x u) (h : unA op x = some v) : Gives C.P w ρ H (Op.unary op u) v := by
  cases op <;> simp only [unA] at h
  all_goals first
    | (cases h; done)
    | (cases x <;> simp only at h <;> first
        | (cases h; done)
        | (cases hx
           first
           | (rw [intA_eq] at h; cases h; exact ⟨_, by simp [Op.unary, Op.intArith], .int _ _⟩)
           | (unfold bitA at h; rw [intA_eq] at h; cases h; exact ⟨_, by simp [Op.unary, Op.intBits], .int _ _⟩)
           | (cases h; exact ⟨_, by simp [Op.unary], .bool _⟩)))

end Go.Proofs.YtobejienmopklaaGreatDoor.Ev

/- Equality of values of whatever type. -/
namespace Go.Proofs.YtobejienmopklaaGreatDoor.Ev
set_option linter.unusedSimpArgs false
variable {P : Program} {ρ : Rho} {H : Heap} {w : World}

/-- equality at a smaller depth is the evaluator's -/
def EqOK (P : Program) (ρ : Rho) (H : Heap) (w : World) (eq : TypeId → AV → AV → Option Bool) (d : Nat) : Prop :=
  ∀ t a b c x y, eq t a b = some c → AVR ρ H w a x → AVR ρ H w b y → (Op.equalIn d t x y).run P w = .ok c w

theorem eqFields_ok {eq : TypeId → AV → AV → Option Bool} {d : Nat} (he : EqOK P ρ H w eq d) {xs ys : List AV} {us vs : Array Value} (hx : us.size = xs.length) (hy : vs.size = ys.length)
    (hxs : ∀ (j : Nat) a v, xs[j]? = some a → us[j]? = some v → AVR ρ H w a v) (hys : ∀ (j : Nat) a v, ys[j]? = some a → vs[j]? = some v → AVR ρ H w a v) :
    ∀ (l : List Field) (b : Bool), eqFields eq P l xs ys = some b →
    (forIn l ((none : Option Bool), ()) fun f __s =>
              if f.name = "_" then pure (ForInStep.yield (none, ()))
              else do
                let __do_lift ← part f.type us f.offset
                let __do_lift_1 ← part f.type vs f.offset
                let __do_lift ← Op.equalIn d f.type __do_lift __do_lift_1
                if __do_lift = false then pure (ForInStep.done (some false, ())) else pure (ForInStep.yield (none, ())) : Sem (Option Bool × Unit)).run P w =
      .ok (if b = true then (none, ()) else (some false, ())) w := by
  intro l
  induction l with
  | nil => intro b h; simp [eqFields] at h; subst h; simp
  | cons f l ih =>
    intro b h
    simp only [eqFields] at h
    split at h
    · cases h
    · rename_i hn
      have hn' : ¬ (f.name = "_") := by simpa using hn
      split at h
      · rename_i a1 a2 h1 h2
        obtain ⟨v1, r1, k1⟩ := partA_ok (w := w) hx hxs h1
        obtain ⟨v2, r2, k2⟩ := partA_ok (w := w) hy hys h2
        split at h
        · rename_i h3
          have hr := he _ _ _ _ _ _ h3 k1 k2
          simp [List.forIn_cons, hn', r1, r2, hr, ih b h]
        · rename_i h3
          have hr := he _ _ _ _ _ _ h3 k1 k2
          cases h
          simp [List.forIn_cons, hn', r1, r2, hr]
        · cases h
      · cases h

theorem eqElems_ok {eq : TypeId → AV → AV → Option Bool} {d : Nat} (he : EqOK P ρ H w eq d) {e : TypeId} {z : Nat} {xs ys : List AV} {us vs : Array Value} (hx : us.size = xs.length) (hy : vs.size = ys.length)
    (hxs : ∀ (j : Nat) a v, xs[j]? = some a → us[j]? = some v → AVR ρ H w a v) (hys : ∀ (j : Nat) a v, ys[j]? = some a → vs[j]? = some v → AVR ρ H w a v) :
    ∀ (n s : Nat) (b : Bool), eqElems eq P e z xs ys n (s * z) = some b →
    (forIn (List.range' s n) ((none : Option Bool), ()) fun i __s => do
                let __do_lift ← part e us (i * z)
                let __do_lift_1 ← part e vs (i * z)
                let __do_lift ← Op.equalIn d e __do_lift __do_lift_1
                if __do_lift = false then pure (ForInStep.done (some false, ())) else pure (ForInStep.yield (none, ())) : Sem (Option Bool × Unit)).run P w =
      .ok (if b = true then (none, ()) else (some false, ())) w := by
  intro n
  induction n with
  | zero => intro s b h; simp [eqElems] at h; subst h; simp
  | succ n ih =>
    intro s b h
    simp only [eqElems] at h
    split at h
    · rename_i a1 a2 h1 h2
      obtain ⟨v1, r1, k1⟩ := partA_ok (w := w) hx hxs h1
      obtain ⟨v2, r2, k2⟩ := partA_ok (w := w) hy hys h2
      split at h
      · rename_i h3
        have hr := he _ _ _ _ _ _ h3 k1 k2
        have hi := ih (s + 1) b (by rw [Nat.succ_mul]; exact h)
        simp [List.range'_succ, List.forIn_cons, r1, r2, hr, hi]
      · rename_i h3
        have hr := he _ _ _ _ _ _ h3 k1 k2
        cases h
        simp [List.range'_succ, List.forIn_cons, r1, r2, hr]
      · cases h
    · cases h

theorem nilSl_ok {a : AV} {x : Value} (h : nilSl a = true) (hx : AVR ρ H w a x) : ∃ n c, x = .slice none n c := by
  unfold nilSl at h
  split at h
  · cases hx with | sl _ _ _ A c b o us k1 k2 => rw [k2.2.1 rfl]; exact ⟨_, _, rfl⟩
  · cases h
theorem fullSl_ok {a : AV} {x : Value} (h : fullSl a = true) (hx : AVR ρ H w a x) : ∃ p n c, x = .slice (some p) n c := by
  unfold fullSl at h
  split at h
  · cases hx with | sl _ _ _ A c b o us k1 k2 k3 k4 => rw [(k4 (by simp)).1]; exact ⟨_, _, _, rfl⟩
  · cases hx with | slc _ _ _ _ _ A c k1 k2 k3 k4 => obtain ⟨p, rfl⟩ := Option.isSome_iff_exists.1 k4.1; exact ⟨_, _, _, rfl⟩
  · cases hx with | sl _ _ _ A c b o us k1 k2 => obtain ⟨p, rfl⟩ := Option.isSome_iff_exists.1 (k2.2.2 (by omega)); exact ⟨_, _, _, rfl⟩
  · cases h
theorem eqNil_ok {e : TypeId} {t : TypeId} {d : Nat} {a b : AV} {c : Bool} {x y : Value} (hu : P.underlying t = some (.slice e)) (h : eqNil a b = some c) (hx : AVR ρ H w a x) (hy : AVR ρ H w b y) : (Op.equalIn (d + 1) t x y).run P w = .ok c w := by
  unfold eqNil at h
  cases h1 : nilSl a with
  | true =>
    rw [h1] at h
    obtain ⟨n, m, rfl⟩ := nilSl_ok h1 hx
    cases h2 : nilSl b with
    | true =>
      rw [h2] at h
      obtain ⟨n', m', rfl⟩ := nilSl_ok h2 hy
      cases h
      simp [Op.equalIn, run_und hu]
    | false =>
      rw [h2] at h
      obtain ⟨h3, h4⟩ := cnd_some.1 (show cnd (fullSl b) (some false) none = some c from h)
      obtain ⟨p, n', m', rfl⟩ := fullSl_ok h3 hy
      cases h4
      simp [Op.equalIn, run_und hu]
  | false =>
    rw [h1] at h
    obtain ⟨h3, h4⟩ := cnd_some.1 (show cnd (nilSl b && fullSl a) (some false) none = some c from h)
    simp only [Bool.and_eq_true] at h3
    obtain ⟨n, m, rfl⟩ := nilSl_ok h3.1 hy
    obtain ⟨p, n', m', rfl⟩ := fullSl_ok h3.2 hx
    cases h4
    simp [Op.equalIn, run_und hu]

set_option maxHeartbeats 4000000 in
theorem eqA_ok : ∀ (n d : Nat), n ≤ d → EqOK P ρ H w (eqA P n) d := by
  intro n
  induction n with
  | zero => intro d _ t a b c x y h; simp [eqA] at h
  | succ n ih =>
    intro d hd t a b c x y h hx hy
    obtain ⟨d, rfl⟩ : ∃ m, d = m + 1 := ⟨d - 1, by omega⟩
    have ih' := ih d (by omega)
    simp only [eqA] at h
    split at h
    · rename_i hu; cases hx; cases hy; cases h; simp [Op.equalIn, run_und hu]
    · rename_i hu; cases hx; cases hy; split at h
      · rename_i hk; subst hk; cases h; simp [Op.equalIn, run_und hu]
      · cases h
    · rename_i hu; cases hx with | str _ b1 h1 => cases hy with | str _ b2 h2 =>
        subst h1; subst h2; cases h
        rw [eqL_bytes]
        have : (b1.toList == b2.toList) = (b1 == b2) := by
          rw [Bool.eq_iff_iff, ByteArray.toList_eq, ByteArray.toList_eq]
          show _ ↔ (b1.data == b2.data) = true
          simp [Array.toList_inj]
        simp [Op.equalIn, run_und hu, this]
    · rename_i hu; cases hx; cases hy; cases h; simp [Op.equalIn, run_und hu]
    · rename_i hu; cases hx; cases hy; cases h; simp [Op.equalIn, run_und hu]
    · rename_i hu; cases hx; cases hy; cases h; simp [Op.equalIn, run_und hu]
    · rename_i hu; cases hx; cases hy; cases h; simp [Op.equalIn, run_und hu]
    · rename_i hu; cases hx; cases hy; cases h; simp [Op.equalIn, run_und hu]
    · rename_i e i o j q hu
      cases hx with | ref _ _ p k1 k2 => cases hy with | ref _ _ p' k3 k4 =>
        split at h
        case h_2 => cases h
        rename_i inf hinf
        split at h
        case isFalse => cases h
        rename_i heq
        obtain ⟨rfl, rfl⟩ := heq
        cases h
        subst k2; subst k4
        simp [Op.equalIn, run_und hu, sizeOf, run_info hinf, run_sameAddr_same]
    · rename_i hu; cases hx; cases hy; cases h; simp [Op.equalIn, run_und hu]
    · rename_i hu; cases hx; cases hy; cases h; simp [Op.equalIn, run_und hu]
    · rename_i hu; cases hx; cases hy; cases h; simp [Op.equalIn, run_und hu]
    · rename_i hu
      cases hx with | iface _ _ v1 h1 => cases hy with | iface _ _ v2 h2 =>
        split at h
        · rename_i ht
          subst ht
          split at h
          · rename_i i hi
            split at h
            · rename_i hc
              simp [Op.equalIn, run_und hu, run_info hi, hc, ih' _ _ _ _ _ _ h h1 h2]
            · cases h
          · cases h
        · rename_i ht; cases h; simp [Op.equalIn, run_und hu, ht]
    · rename_i fs xs ys hu
      cases hx with | agg _ us k1 k2 => cases hy with | agg _ vs k3 k4 =>
        split at h
        · cases h
        · rename_i hs
          have := eqFields_ok (P := P) ih' k1 k3 k2 k4 fs.toList c h
          unfold Op.equalIn
          simp only [Array.forIn_toList] at this
          simp [run_und hu, hs, this]
          cases c <;> simp
    · rename_i m e xs ys hu
      cases hx with | agg _ us k1 k2 => cases hy with | agg _ vs k3 k4 =>
        split at h
        · rename_i z hz
          have := eqElems_ok (P := P) (e := e) (z := z) ih' k1 k3 k2 k4 m 0 c (by simpa using h)
          unfold Op.equalIn
          simp [run_und hu, run_size hz, Std.Legacy.Range.forIn_eq_forIn_range', Std.Legacy.Range.size, this]
          cases c <;> simp
        · cases h
    · rename_i hu; cases hx; cases hy; cases h; simp [Op.equalIn, run_und hu]
    · rename_i hu; cases hx; cases hy; cases h; simp [Op.equalIn, run_und hu]
    · rename_i hu; cases hx; cases hy; cases h; simp [Op.equalIn, run_und hu]
    · rename_i hu; cases hx; cases hy; cases h; simp [Op.equalIn, run_und hu]
    · rename_i hu; cases hx; cases hy; cases h; simp [Op.equalIn, run_und hu]
    · rename_i hu; cases hx; cases hy; cases h; simp [Op.equalIn, run_und hu]
    · rename_i hu; exact eqNil_ok hu h hx hy
    · cases h

end Go.Proofs.YtobejienmopklaaGreatDoor.Ev
