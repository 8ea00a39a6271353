/- LowerRuns: operations on memory, first part. Conditions: none beyond the card's own. -/
import Derived.Test.YtobejienmopklaaGreatDoorE3
import Derived.Lib.FrozenHead
/- Operations that look at memory or change it: how their run and the evaluator's answer belong together. -/
namespace Go.Proofs.YtobejienmopklaaGreatDoor.Ev
set_option linter.unusedSimpArgs false
variable {P : Program} {ρ : Rho} {H : Heap} {w : World}

noncomputable def layH (wr : List (Nat × AO × Bool)) (H : Heap) : Heap := wr.foldl (fun H x => H.set x.1 x.2.1) H
noncomputable def layL (wr : List (Nat × AO × Bool)) (low : Nat) : Nat := wr.foldl (fun l x => lowOf x.2.2 x.1 l) low

theorem layW_eq (wr : List (Nat × AO × Bool)) (k : Heap → Nat → Option S) : ∀ (H : Heap) (low : Nat), layW wr H low k = k (layH wr H) (layL wr low) := by
  induction wr with
  | nil => intro H low; rfl
  | cons x wr ih => intro H low; obtain ⟨id, o, rf⟩ := x; exact (Heap.setK_eq H id o fun H => layW wr H (lowOf rf id low) k).trans (ih _ _)

@[simp] theorem layH_nil (H : Heap) : layH [] H = H := rfl
@[simp] theorem layL_nil (low : Nat) : layL [] low = low := rfl
@[simp] theorem layH_one (H : Heap) (x : Nat × AO × Bool) : layH [x] H = H.set x.1 x.2.1 := rfl
@[simp] theorem layL_one (low : Nat) (x : Nat × AO × Bool) : layL [x] low = lowOf x.2.2 x.1 low := rfl

/-- what is to hold after an operation that gave `u` and went from w to w' -/
def Fin (ρ : Rho) (H : Heap) (w w' : World) (S0 : (Nat → Prop) → Prop) (nid : Nat) (u : Value) : D → Prop
  | ⟨v, _, wr, none⟩ => (∀ low, Stp ρ H low w ρ (layH wr H) (layL wr low) w') ∧ AVR ρ (layH wr H) w' v u
  | ⟨v, _, wr, some o⟩ => ∀ S H' low, Filled (layH wr H) nid o H' → (∀ i, S i → H.has i ∧ i ≠ nid) → (∀ id o, H.get id = some o → ORB S o) → S0 S →
      H.get nid = none → ∃ p, StpS S nid ρ H low w (upd ρ nid p) H' (layL wr low) w' ∧ AVR (upd ρ nid p) H' w' v u

theorem fin_val (h : HR ρ H w) {S0 nid v u rd} (hv : AVR ρ H w v u) : Fin ρ H w w S0 nid u ⟨v, rd, [], none⟩ := ⟨fun _ => .refl h, hv⟩

theorem Fin.mono {w' : World} {S0 S1 : (Nat → Prop) → Prop} {nid u d} (h : Fin ρ H w w' S0 nid u d) (hs : ∀ S, S1 S → S0 S) : Fin ρ H w w' S1 nid u d := by
  obtain ⟨v, rd, wr, new⟩ := d
  cases new with
  | none => exact h
  | some o => exact fun S H' low a b c d e => h S H' low a b c (hs S d) e

/-- the same memory: all is as it was -/
theorem tra_same {w' : World} (hh : w'.heap = w.heap) (hs : Same w w') : Tra H.has ρ H w ρ H w' :=
  ⟨⟨fun _ h => h, fun _ _ => rfl, fun _ o _ h hd => ⟨o, h, .refl hd⟩, fun _ _ h => h, fun b _ _ => by rw [hh], fun b carr e fr h => ⟨carr, fr, by rw [hh]; exact h, rfl⟩,
    by rw [hh]; exact Nat.le_refl _, hs.os, hs.tape, hs.output⟩, rfl, fun b _ => by rw [hh]⟩
theorem hr_same {w' : World} (h : HR ρ H w) (hh : w'.heap = w.heap) (hs : Same w w') : HR ρ H w' :=
  ⟨fun id e ex wc fz cs hg => hr_row_other h (tra_same hh hs) hg (by rw [hh]), fun id wc es cl hg => hr_map_other h (tra_same hh hs) hg (by rw [hh]), h.inj, fun b hb => by rw [hh]; exact h.res b hb, h.apart⟩

/-- a new object in a block of its own -/
theorem fin_new {w' : World} {obj : AO} {ob : Obj} (h : HR ρ H w) {S : Nat → Prop} {H' : Heap} {nid low : Nat} (hh : w'.heap = w.heap.push ob) (hs : Same w w')
    (hF : Filled H nid obj H') (hS : ∀ i, S i → H.has i ∧ i ≠ nid) (hval : ∀ id o, H.get id = some o → ORB S o) (hobjS : ORB S obj)
    (hd : H.get nid = none) (hobj : ObjAt ρ H w w' (w.heap.size, 0) obj) : StpS S nid ρ H low w (upd ρ nid (w.heap.size, 0)) H' low w' := by
  refine stp_fill h hS hval hobjS (fun i o g _ => g) (fun i o g => ⟨o, g, .refl o⟩) (fun _ g => g) rfl hF hd (fun i o g hn => Nat.ne_of_lt (h.lt g hn)) (fun hl => absurd hl (Nat.lt_irrefl _)) (fun hr => absurd (h.res _ hr) (Nat.lt_irrefl _)) (fun b _ hb => ?_) (fun carr e fr hg => ?_) ?_ hs hobj
  · rw [hh, Array.getElem?_push]; simp [Nat.ne_of_lt hb]
  · have := (Array.getElem?_eq_some_iff.1 hg).1; omega
  · rw [hh]; simp

theorem plain_cell {v : AV} {u : Value} (h : AVR ρ H w v u) (hp : plain v = true) : u.oneCell' = true := by
  cases h <;> first | rfl | (simp [plain] at hp)

theorem norefy {S : Nat → Prop} (S' : Nat → Prop) : ∀ (n : Nat) (a : AV), refy n a = false → RB S a → RB S' a := by
  intro n
  induction n with
  | zero => intro a h; simp [refy] at h
  | succ n ih =>
    intro a h r
    cases r with
    | int | bool | str | nilp | nilm | nilf | nili => constructor
    | ref | slc | mref => simp [refy] at h
    | iptr cells hc => exact .iptr _ hc
    | sl clip sz elems he => exact .sl _ _ _ he
    | fn f first cap h1 h2 =>
      simp [refy] at h
      exact .fn _ _ _ (fun j a ha => ih a (h.1 a (List.mem_of_getElem? ha)) (h1 j a ha)) (fun j a ha => ih a (h.2 a (List.mem_of_getElem? ha)) (h2 j a ha))
    | iface t v hv => simp [refy] at h; exact .iface _ _ (ih _ h hv)
    | agg cells hc => simp [refy] at h; exact .agg _ fun j a ha => ih a (h a (List.mem_of_getElem? ha)) (hc j a ha)
    | tup cells hc => simp [refy] at h; exact .tup _ fun j a ha => ih a (h a (List.mem_of_getElem? ha)) (hc j a ha)
theorem noRef_rb {S S' : Nat → Prop} {vs : List AV} (h : anyRef vs = false) {j : Nat} {a : AV} (ha : vs[j]? = some a) (r : RB S a) : RB S' a := by
  unfold anyRef at h
  simp at h
  exact norefy S' 100 a (h a (List.mem_of_getElem? ha)) r

/- ### loads -/
theorem loadVar_ok {t : TypeId} {cs : List AV} {off : Nat} {v : AV} {b o : Nat} {us : Nat → Value} (hc : ∀ (j : Nat) a, cs[j]? = some a → w.cell? ⟨b, o + j, none⟩ = some (us j))
    (hr : ∀ (j : Nat) a, cs[j]? = some a → AVR ρ H w a (us j)) (h : partA P t cs off = some v) : Gives P w ρ H (loadVar t ⟨b, o + off, none⟩) v := by
  have aggcase : ∀ d, P.underlying t = some d → (d matches .struct _ | .array _ _) = true → (bnd (sizeT P t) fun n => bnd (cut cs off n) fun r => some (AV.agg r)) = some v →
      Gives P w ρ H (loadVar t ⟨b, o + off, none⟩) v := by
    intro d hd hm h
    obtain ⟨n, hn, h⟩ := bnd_eq.1 h
    obtain ⟨r, hr', h⟩ := bnd_eq.1 h
    cases h
    have hlen := cut_len hr'
    have e1 : (isAgg t).run P w = .ok true w := by cases d <;> simp at hm <;> simp [isAgg, run_und hd]
    have hj : ∀ j, j < n → ∃ a, cs[off + j]? = some a ∧ r[j]? = some a := by
      intro j hj
      have := cut_get hr' j hj
      have h2 : r[j]? = some (r[j]'(by omega)) := by simp [show j < r.length by omega]
      exact ⟨_, by rw [← this]; exact h2, h2⟩
    refine ⟨.agg ((List.range n).map fun j => us (off + j)).toArray, ?_, .agg _ _ (by simp [hlen]) fun j a u ha hu => ?_⟩
    · simp [loadVar, e1, run_size hn]
      rw [run_loadCells w ⟨b, o + off, none⟩ n (fun j => us (off + j)) (fun j hj' => by
        obtain ⟨a, h1, _⟩ := hj j hj'
        rw [addr_add, Nat.add_assoc]; exact hc _ _ h1)]
      simp
    · have hlt : j < n := by rw [← hlen]; exact (List.getElem?_eq_some_iff.1 ha).1
      obtain ⟨a', h1, h2⟩ := hj j hlt
      rw [ha] at h2; cases h2
      simp [hlt] at hu
      subst hu
      exact hr _ _ h1
  have rest : ∀ d, P.underlying t = some d → (d matches .struct _ | .array _ _) = false → nth cs off = some v → Gives P w ρ H (loadVar t ⟨b, o + off, none⟩) v := by
    intro d hu hm h
    rw [nth_eq] at h
    have e1 : (isAgg t).run P w = .ok false w := by
      cases d <;> first | (simp [isAgg, run_und hu]; done) | (simp at hm; done)
    exact ⟨us off, by simp [loadVar, e1, hc _ _ h], hr _ _ h⟩
  unfold partA at h
  cases hu : P.underlying t with
  | none => rw [hu] at h; cases h
  | some d =>
    rw [hu] at h
    cases d <;> first | exact aggcase _ hu rfl h | exact rest _ hu rfl h

theorem HR.cells {id : Nat} {e ex wc fz cs} (h : HR ρ H w) (hg : H.get id = some (.row e ex wc fz cs)) : ∃ us : Nat → Value,
    (∀ (j : Nat) a, cs[j]? = some a → w.cell? ⟨(ρ id).1, (ρ id).2 + j, none⟩ = some (us j)) ∧ ∀ (j : Nat) a, cs[j]? = some a → AVR ρ H w a (us j) := by
  obtain ⟨carr, lo, hi, h1, h2, h3, h4, h5⟩ := h.row _ _ _ _ _ _ hg
  refine ⟨fun j => carr.getD ((ρ id).2 + j) undef, fun j a ha => ?_, fun j a ha => ?_⟩
  · obtain ⟨v, hv, _⟩ := h5 j a ha
    simp [World.cell?, h1, hv, Array.getD_eq_getD_getElem?]
  · obtain ⟨v, hv, hr⟩ := h5 j a ha
    simp [Array.getD_eq_getD_getElem?, hv]; exact hr

theorem load_ok {t : TypeId} {a : AV} {ua : Value} {d : D} {S0 nid} (h : HR ρ H w) (ha : AVR ρ H w a ua) (hd : loadA P t a H = some d) :
    ∃ u, (Instr.loadAt t ua).run P w = .ok u w ∧ Fin ρ H w w S0 nid u d := by
  cases a <;> simp only [loadA] at hd <;> try (cases hd; done)
  · rename_i id off
    split at hd
    · rename_i e ex wc fz cs hg
      obtain ⟨v, hv, hd⟩ := bnd_eq.1 hd
      cases hd
      cases ha with
      | ref _ _ p h1 h2 =>
        subst h2
        obtain ⟨us, k1, k2⟩ := h.cells hg
        obtain ⟨u, r1, r2⟩ := loadVar_ok k1 k2 hv
        exact ⟨u, by simp [Instr.loadAt, Instr.sureAddr, r1], fin_val h r2⟩
    · cases hd
  · rename_i cs
    obtain ⟨v, hv, hd⟩ := bnd_eq.1 hd
    cases hd
    cases ha with
    | iptr _ b o us h1 h2 h3 h4 h5 =>
      obtain ⟨u, r1, r2⟩ := loadVar_ok h3 h5 hv
      exact ⟨u, by simpa [Instr.loadAt, Instr.sureAddr] using r1, fin_val h r2⟩

/- ### writes -/
theorem writeRow_ok {id off : Nat} {vs : List AV} {us : List Value} {rd : List Nat} {v : AV} {uv : Value} {d : D} {S0 nid} (h : HR ρ H w)
    (hl : us.length = vs.length) (hvs : ∀ (j : Nat) a u, vs[j]? = some a → us[j]? = some u → AVR ρ H w a u) (hv : ∀ H' w', Tra H.has ρ H w ρ H' w' → AVR ρ H' w' v uv)
    (hd : writeRow id off vs rd H v = some d) :
    ∃ w', (storeCells ⟨(ρ id).1, (ρ id).2 + off, none⟩ us).run P w = .ok () w' ∧ Fin ρ H w w' S0 nid uv d := by
  unfold writeRow at hd
  split at hd
  · rename_i e ex wc fz cs hg
    obtain ⟨hc, hd⟩ := cnd_some.1 hd
    obtain ⟨cs', hcs', hd⟩ := bnd_eq.1 hd
    cases hd
    simp [plains] at hc
    obtain ⟨hfz, hpl⟩ := hc
    obtain ⟨carr, lo, hi, h1, h2, h3, h4, h5⟩ := h.row _ _ _ _ _ _ hg
    have hle := ((put_eq _ _ _ _).1 hcs').1
    have hlen := put_len hcs'
    have hone : ∀ u ∈ us, u.oneCell' = true := by
      intro u hu
      obtain ⟨j, hj⟩ := List.mem_iff_getElem?.1 hu
      have hjl := (List.getElem?_eq_some_iff.1 hj).1
      have ha : vs[j]? = some (vs[j]'(by omega)) := by simp [show j < vs.length by omega]
      exact plain_cell (hvs _ _ _ ha hj) (hpl _ (List.mem_of_getElem? ha))
    have hrun := run_storeCells_atF P (ρ id).1 ((ρ id).2 + off) e (lo, hi) us 0 carr w h1 (by simp; omega) (by omega) hone
    refine ⟨_, hrun, ?_⟩
    simp only [Nat.add_zero]
    have hst : ∀ low, Stp ρ H low w ρ (H.set id (.row e ex (Nat.succ wc) fz cs')) (lowOf (anyRef vs) id low) (w.setRow (ρ id).1 (carr.toList.take ((ρ id).2 + off) ++ us ++ carr.toList.drop ((ρ id).2 + off + us.length)).toArray) := by
      intro low
      refine stp_row (hwc := Nat.lt_succ_self _) (carr' := (carr.toList.take ((ρ id).2 + off) ++ us ++ carr.toList.drop ((ρ id).2 + off + us.length)).toArray) h hg (setRow_heap _ _ _ _ _ _ h1) (fun b hb => setRow_other _ _ _ _ hb) (by simp) ⟨rfl, rfl, rfl⟩ (fun carr' e1 fr hg1 => ?_) ?_ (fun _ => hlen) h4 (fun j a ha => ?_) (fun hrf n hn j a ha => ?_)
      · rw [h1] at hg1; cases hg1; simp; omega
      · simp; omega
      · rw [put_get hcs'] at ha
        have hget : (List.take ((ρ id).2 + off) carr.toList ++ us ++ List.drop ((ρ id).2 + off + us.length) carr.toList).toArray[(ρ id).2 + j]? =
            if off ≤ j ∧ j < off + vs.length then us[j - off]? else carr[(ρ id).2 + j]? := by
          simp only [List.getElem?_toArray]
          rw [List.getElem?_append]
          simp only [List.length_append, List.length_take, Array.length_toList, Nat.min_eq_left (show (ρ id).2 + off ≤ carr.size by omega)]
          rw [List.getElem?_append]
          simp only [List.length_take, Array.length_toList, Nat.min_eq_left (show (ρ id).2 + off ≤ carr.size by omega)]
          by_cases c1 : off ≤ j
          · by_cases c2 : j < off + vs.length
            · rw [if_pos (by omega), if_neg (by omega), if_pos ⟨c1, c2⟩]; congr 1; omega
            · rw [if_neg (by omega), if_neg (by omega), List.getElem?_drop]; simp; congr 1; omega
          · rw [if_pos (by omega), if_pos (by omega), if_neg (by omega)]
            rw [List.getElem?_take, if_pos (by omega)]; simp
        by_cases c : off ≤ j ∧ j < off + vs.length
        · rw [if_pos c] at ha
          have : us[j - off]? = some (us[j - off]'(by omega)) := by simp [show j - off < us.length by omega]
          exact ⟨_, by rw [hget, if_pos c]; exact this, hvs _ _ _ ha this⟩
        · rw [if_neg c] at ha
          obtain ⟨u, hu, hr⟩ := h5 j a ha
          exact ⟨u, by rw [hget, if_neg c]; exact hu, hr⟩
      · rw [put_get hcs'] at ha
        split at ha
        · exact noRef_rb hrf ha (by
            rename_i c
            have : us[j - off]? = some (us[j - off]'(by omega)) := by simp [show j - off < us.length by omega]
            exact (hvs _ _ _ ha this).rb)
        · exact hn j a ha
    exact ⟨hst, hv _ _ (hst 0).tra⟩
  · cases hd

end Go.Proofs.YtobejienmopklaaGreatDoor.Ev

/- Stores, copies, new variables and rows. -/
namespace Go.Proofs.YtobejienmopklaaGreatDoor.Ev
set_option linter.unusedVariables false
set_option linter.unnecessarySimpa false
set_option linter.unusedSimpArgs false
variable {P : Program} {ρ : Rho} {H : Heap} {w : World}

theorem writeRow_get {id off : Nat} {vs : List AV} {rd : List Nat} {v : AV} {d : D} (hd : writeRow id off vs rd H v = some d) : ∃ e ex wc fz cs, H.get id = some (.row e ex wc fz cs) := by
  unfold writeRow at hd
  split at hd
  · rename_i e ex wc fz cs hg; exact ⟨_, _, _, _, _, hg⟩
  · cases hd

theorem store_ok {t : TypeId} {a v : AV} {ua uv : Value} {d : D} {S0 nid} (h : HR ρ H w) (ha : AVR ρ H w a ua) (hv : AVR ρ H w v uv) (hd : storeA (sizeT P t) a v H = some d) :
    ∃ w', (Instr.storeAt t ua uv).run P w = .ok () w' ∧ Fin ρ H w w' S0 nid Go.undef d := by
  cases a <;> simp only [storeA] at hd <;> try (cases hd; done)
  rename_i id off
  split at hd
  · rename_i n hn
    obtain ⟨hc, hd⟩ := cnd_some.1 hd
    simp at hc
    obtain ⟨e, ex, wc, fz, cs, hg⟩ := writeRow_get hd
    obtain ⟨k1, k2⟩ := hv.cells
    obtain ⟨w', r1, r2⟩ := writeRow_ok (P := P) (us := uv.cells.toList) (S0 := S0) (nid := nid) h (by simp [k1]) (fun j a u h1 h2 => k2 j a u h1 (by simpa using h2)) (uv := Go.undef) (fun _ _ _ => .undef) hd
    cases ha with
    | ref _ _ p h1 h2 =>
      subst h2
      refine ⟨w', ?_, r2⟩
      have : uv.cells.size = n := by rw [k1, hc]
      simp [Instr.storeAt, Instr.sureAddr, storeVar, run_size hn, this, r1]
  · cases hd

/-- cells from abstract ones -/
theorem rowObj {cs : List AV} {us : Array Value} {e : TypeId} {ex : Bool} {w' : World} {b : Nat} (hb : w'.heap[b]? = some (.cells us e (0, 0))) (hl : us.size = cs.length ∨ (ex = false ∧ cs.length ≤ us.size))
    (hc : ∀ (j : Nat) a u, cs[j]? = some a → us[j]? = some u → AVR ρ H w a u) : ObjAt ρ H w w' (b, 0) (row e ex cs) := by
  refine ⟨us, 0, 0, hb, by simp; omega, fun hx => ⟨rfl, ?_⟩, Nat.zero_le _, fun j a ha => ?_⟩
  · rcases hl with h | h
    · exact h
    · rw [h.1] at hx; cases hx
  · have hlt := (List.getElem?_eq_some_iff.1 ha).1
    have : us[j]? = some (us[j]'(by omega)) := by simp [show j < us.size by omega]
    exact ⟨_, by simpa using this, hc _ _ _ ha this⟩

/-- a new variable, its pointer -/
theorem newVar_fin {cs : List AV} {us : Array Value} {e : TypeId} {S0 nid} {d : D} (h : HR ρ H w) (hl : us.size = cs.length) (hc : ∀ (j : Nat) a u, cs[j]? = some a → us[j]? = some u → AVR ρ H w a u)
    (h0 : ∀ S, S0 S → ∀ (j : Nat) a, cs[j]? = some a → RB S a) (hd : made (.ref nid 0) [] (row e true cs) = some d) :
    Fin ρ H w { w with heap := w.heap.push (.cells us e (0, 0)) } S0 nid (.pointer (some ⟨w.heap.size, 0, none⟩)) d := by
  cases hd
  intro S H' low hF hS hval hs0 hdead
  refine ⟨(w.heap.size, 0), fin_new h rfl ⟨rfl, rfl, rfl⟩ hF hS hval (fun j a ha => h0 S hs0 j a ha) hdead (rowObj (by simp) (.inl hl) hc), .ref _ _ _ hF.has ?_⟩
  simp [upd_same]

theorem cells_rb {S : Nat → Prop} {v : AV} (h : RB S v) {j : Nat} {a : AV} (ha : v.cells[j]? = some a) : RB S a := by
  have one : ∀ {v : AV}, RB S v → [v][j]? = some a → RB S a := by
    intro v hv h1
    cases j with
    | zero => simp at h1; subst h1; exact hv
    | succ j => simp at h1
  cases v <;> first | exact one h ha | skip
  cases h with
  | agg _ hcc => exact hcc j a ha

theorem box_ok {e : TypeId} {v : AV} {uv : Value} {S0 nid} {d : D} (h : HR ρ H w) (hv : AVR ρ H w v uv) (h0 : ∀ S, S0 S → RB S v) (hd : boxA e v nid = some d) :
    ∃ u w', (Instr.box e uv).run P w = .ok u w' ∧ Fin ρ H w w' S0 nid u d := by
  unfold boxA at hd
  obtain ⟨_, hd⟩ := cnd_some.1 hd
  obtain ⟨k1, k2⟩ := hv.cells
  refine ⟨_, _, ?_, newVar_fin h k1 k2 (fun S hs j a ha => ?_) hd⟩
  · simp [Instr.box, newVar, newRow]
  · exact cells_rb (h0 S hs) ha

theorem zero_rb {t : TypeId} {z : AV} (h : zeroT P t = some z) (S : Nat → Prop) : RB S z := by
  obtain ⟨zv, _, _, hr⟩ := zeroT_ok h
  exact (hr ⟨fun _ => (0, 0), fun _ => False⟩ (.mk 0 []) default).rb.mono fun i hi => absurd (Heap.lt_of_has hi) (Nat.not_lt_zero _)
theorem alloc_ok {e : TypeId} {S0 nid} {d : D} (h : HR ρ H w) (hd : allocA P e nid = some d) :
    ∃ u w', (Instr.alloc e true (.tuple #[])).run P w = .ok u w' ∧ Fin ρ H w w' S0 nid u d := by
  unfold allocA at hd
  split at hd
  · rename_i z hz
    obtain ⟨_, hd⟩ := cnd_some.1 hd
    obtain ⟨zv, r1, _, r3⟩ := zeroT_ok hz
    obtain ⟨k1, k2⟩ := (r3 ρ H w).cells
    refine ⟨_, _, ?_, newVar_fin h k1 k2 (fun S _ j a ha => cells_rb (zero_rb hz S) ha) hd⟩
    simp [Instr.alloc, r1, newVar, newRow]
  · cases hd

/-- a new row, its slice -/
theorem newRow_fin {w' : World} {cs : List AV} {us : Array Value} {e : TypeId} {n sz c : Nat} {clip : Bool} {rd : List Nat} {S0 nid} {d : D} (h : HR ρ H w) (hw : w'.heap = w.heap.push (.cells us e (0, 0))) (hs : Same w w')
    (hl : cs.length ≤ us.size) (hc : ∀ (j : Nat) a u, cs[j]? = some a → us[j]? = some u → AVR ρ H w a u)
    (hnc : n ≤ c) (hclip : clip = true → c = n) (hsz : c * sz ≤ us.size)
    (h0 : ∀ S, S0 S → (∀ id o, H.get id = some o → ORB S o) → ∀ (j : Nat) a, cs[j]? = some a → RB S a) (hd : made (.slc nid 0 n sz clip) rd (row e false cs) = some d) :
    Fin ρ H w w' S0 nid (.slice (some ⟨w.heap.size, 0, none⟩) n c) d := by
  cases hd
  intro S H' low hF hS hval hs0 hdead
  have hb : w'.heap[w.heap.size]? = some (.cells us e (0, 0)) := by rw [hw]; simp
  refine ⟨(w.heap.size, 0), fin_new h hw hs hF hS hval (fun j a ha => h0 S hs0 hval j a ha) hdead (rowObj hb (.inr ⟨rfl, hl⟩) hc), .slc _ _ _ _ _ _ _ hF.has hnc hclip ⟨rfl, fun _ => by simp [upd_same]⟩ fun e' ex' wc' fz' cs' hg => ⟨us, e, (0, 0), by simpa [upd_same] using hb, by simpa [upd_same] using hsz⟩⟩

/- ### parts put over cells -/
theorem fillStep_list (off : Nat) : ∀ (vs : List Value) (cells : Array Value) (i : Nat), ((vs.zipIdx i).foldl (fun cs (x : Value × Nat) => cs.setIfInBounds (off + x.2) x.1) cells).size = cells.size ∧
    ∀ j, ((vs.zipIdx i).foldl (fun cs (x : Value × Nat) => cs.setIfInBounds (off + x.2) x.1) cells)[j]? = if off + i ≤ j ∧ j < off + i + vs.length ∧ j < cells.size then vs[j - (off + i)]? else cells[j]? := by
  intro vs
  induction vs with
  | nil => intro cells i; refine ⟨rfl, fun j => ?_⟩; rw [if_neg (by simp; omega)]; rfl
  | cons v vs ih =>
    intro cells i
    rw [List.zipIdx_cons, List.foldl_cons]
    obtain ⟨h1, h2⟩ := ih (cells.setIfInBounds (off + i) v) (i + 1)
    refine ⟨by rw [h1]; simp, fun j => ?_⟩
    rw [h2]
    simp only [Array.size_setIfInBounds, List.length_cons]
    by_cases c : j = off + i
    · subst c
      rw [if_neg (by omega)]
      by_cases c2 : off + i < cells.size
      · rw [if_pos (by omega)]; simp [c2]
      · rw [if_neg (by omega)]; simp [c2]
    · by_cases c2 : off + i ≤ j ∧ j < off + i + (vs.length + 1) ∧ j < cells.size
      · rw [if_pos (by omega), if_pos c2, show j - (off + i) = (j - (off + (i + 1))) + 1 by omega, List.getElem?_cons_succ]
      · rw [if_neg (by omega), if_neg c2, Array.getElem?_setIfInBounds_ne (by omega)]

theorem fillStep {cs : List AV} {cells : Array Value} {v : AV} {uv : Value} {off : Nat} {cs' : List AV} (hl : cells.size = cs.length) (hc : ∀ (j : Nat) a u, cs[j]? = some a → cells[j]? = some u → AVR ρ H w a u)
    (hv : AVR ρ H w v uv) (hp : put off v.cells cs = some cs') : ¬ (off + uv.cells.size > cells.size) ∧
    (uv.cells.zipIdx.foldl (fun cs (x : Value × Nat) => cs.setIfInBounds (off + x.2) x.1) cells).size = cs'.length ∧
    ∀ (j : Nat) a u, cs'[j]? = some a → (uv.cells.zipIdx.foldl (fun cs (x : Value × Nat) => cs.setIfInBounds (off + x.2) x.1) cells)[j]? = some u → AVR ρ H w a u := by
  obtain ⟨k1, k2⟩ := hv.cells
  have hle := ((put_eq _ _ _ _).1 hp).1
  have hlen := put_len hp
  have e : uv.cells.zipIdx.foldl (fun cs (x : Value × Nat) => cs.setIfInBounds (off + x.2) x.1) cells = (uv.cells.toList.zipIdx 0).foldl (fun cs (x : Value × Nat) => cs.setIfInBounds (off + x.2) x.1) cells := by
    rw [← Array.foldl_toList]; simp
  obtain ⟨h1, h2⟩ := fillStep_list off uv.cells.toList cells 0
  refine ⟨by omega, by rw [e, h1]; omega, fun j a u ha hu => ?_⟩
  rw [e, h2] at hu
  rw [put_get hp] at ha
  by_cases c : off ≤ j ∧ j < off + v.cells.length
  · rw [if_pos c] at ha
    rw [if_pos (by simp; omega)] at hu
    exact k2 _ _ _ ha (by simpa using hu)
  · rw [if_neg c] at ha
    rw [if_neg (by simp; omega)] at hu
    exact hc _ _ _ ha hu

end Go.Proofs.YtobejienmopklaaGreatDoor.Ev

/- Aggregates, rows that are made. -/
namespace Go.Proofs.YtobejienmopklaaGreatDoor.Ev
set_option linter.unusedSimpArgs false
variable {P : Program} {ρ : Rho} {H : Heap} {w : World}

/-- parts of an aggregate, abstract ones and values -/
def PartsR (ρ : Rho) (H : Heap) (w : World) (l : List (Nat × AV)) (ps : List (Nat × Value)) : Prop := ps.length = l.length ∧
  ∀ (j : Nat) i a i' u, l[j]? = some (i, a) → ps[j]? = some (i', u) → i' = i ∧ AVR ρ H w a u

theorem fill_ok {place place' : Nat → Option (Nat × Nat)} (hpl : ∀ i x, place i = some x → place' i = some x) : ∀ (l : List (Nat × AV)) (ps : List (Nat × Value)) (cs cs' : List AV) (cells : Array Value),
    PartsR ρ H w l ps → cells.size = cs.length → (∀ (j : Nat) a u, cs[j]? = some a → cells[j]? = some u → AVR ρ H w a u) → fillA place l cs = some cs' →
    ∃ cells', Instr.fill place' cells ps = some cells' ∧ cells'.size = cs'.length ∧ ∀ (j : Nat) a u, cs'[j]? = some a → cells'[j]? = some u → AVR ρ H w a u := by
  intro l
  induction l with
  | nil =>
    intro ps cs cs' cells hp hl hc h
    simp [fillA] at h
    subst h
    have : ps = [] := List.eq_nil_of_length_eq_zero hp.1
    subst this
    exact ⟨cells, rfl, hl, hc⟩
  | cons x l ih =>
    intro ps cs cs' cells hp hl hc h
    obtain ⟨i, v⟩ := x
    obtain ⟨hp1, hp2⟩ := hp
    cases ps with
    | nil => simp at hp1
    | cons y ps =>
      obtain ⟨i', uv⟩ := y
      obtain ⟨rfl, hv⟩ := hp2 0 i v i' uv rfl rfl
      simp only [fillA] at h
      split at h
      · rename_i off z hz
        obtain ⟨hc1, h⟩ := cnd_some.1 h
        simp at hc1
        split at h
        · rename_i cs1 hcs1
          obtain ⟨k1, k2, k3⟩ := fillStep hl hc hv hcs1
          have hsz : uv.cells.size = z := by rw [hv.cells.1, hc1]
          obtain ⟨cells', m1, m2, m3⟩ := ih ps cs1 cs' _ ⟨by simpa using hp1, fun j i a i' u h1 h2 => hp2 (j + 1) i a i' u (by simpa using h1) (by simpa using h2)⟩ k2 k3 h
          refine ⟨cells', ?_, m2, m3⟩
          simp only [Instr.fill, hpl _ _ hz]
          rw [if_neg (by simp [hsz] at k1 ⊢; omega)]
          exact m1
        · cases h
      · cases h

theorem fillA_rb {place : Nat → Option (Nat × Nat)} {S : Nat → Prop} : ∀ (l : List (Nat × AV)) (cs cs' : List AV), fillA place l cs = some cs' → (∀ (j : Nat) i a, l[j]? = some (i, a) → RB S a) →
    (∀ (j : Nat) a, cs[j]? = some a → RB S a) → ∀ (j : Nat) a, cs'[j]? = some a → RB S a := by
  intro l
  induction l with
  | nil => intro cs cs' h _ hc; simp [fillA] at h; subst h; exact hc
  | cons x l ih =>
    intro cs cs' h hl hc
    obtain ⟨i, v⟩ := x
    simp only [fillA] at h
    split at h
    · obtain ⟨_, h⟩ := cnd_some.1 h
      split at h
      · rename_i cs1 hcs1
        refine ih cs1 cs' h (fun j i a h1 => hl (j + 1) i a (by simpa using h1)) fun j a ha => ?_
        rw [put_get hcs1] at ha
        split at ha
        · exact cells_rb (hl 0 i v rfl) ha
        · exact hc j a ha
      · cases h
    · cases h

theorem placesL_ok : ∀ (fs : List Field) (l : List (Nat × Nat)), placesL P fs = some l → (fs.mapM (fun f => do pure (f.offset, ← sizeOf f.type) : Field → Sem (Nat × Nat))).run P w = .ok l w := by
  intro fs
  induction fs with
  | nil => intro l h; simp [placesL] at h; subst h; simp
  | cons f fs ih =>
    intro l h
    simp only [placesL] at h
    split at h
    · rename_i z r h1 h2
      cases h
      have := ih r h2
      simp [List.mapM_cons, run_size h1] at this ⊢
      rw [this]; simp
    · cases h

theorem build_ok {t : TypeId} {l : List (Nat × AV)} {ps : Array (Nat × Value)} {z : AV} {cs : List AV} (hz : zeroT P t = some z) (hps : PartsR ρ H w l ps.toList) (hb : buildA P t l z.cells = some cs) :
    Gives P w ρ H (Instr.build t ps) (.agg cs) := by
  obtain ⟨zv, r1, _, r3⟩ := zeroT_ok hz
  obtain ⟨k1, k2⟩ := (r3 ρ H w).cells
  unfold buildA at hb
  split at hb
  · rename_i place hpl
    unfold placeA at hpl
    split at hpl
    · rename_i fs hu
      split at hpl
      · rename_i pl hl
        cases hpl
        obtain ⟨cells', m1, m2, m3⟩ := fill_ok (place' := (pl.toArray[·]?)) (fun i x hx => by simpa [nth_eq] using hx) l ps.toList z.cells cs zv.cells hps k1 k2 hb
        refine ⟨.agg cells', ?_, .agg _ _ m2 m3⟩
        have hm := placesL_ok (P := P) (w := w) fs.toList pl hl
        have hm' : (fs.mapM (fun f => do pure (f.offset, ← sizeOf f.type) : Field → Sem (Nat × Nat))).run P w = .ok pl.toArray w := by
          rw [← Array.toArray_toList (xs := fs)]
          simp only [List.mapM_toArray]
          simp at hm ⊢
          rw [hm]; simp
        simp only [Instr.build, Sem.run_bind, r1, Result.andThen_ok, run_und hu, hm', m1]
        simp
      · cases hpl
    · rename_i n e hu
      split at hpl
      · rename_i zz hl
        cases hpl
        obtain ⟨cells', m1, m2, m3⟩ := fill_ok (place' := fun i => some (i * zz, zz)) (fun i x hx => hx) l ps.toList z.cells cs zv.cells hps k1 k2 hb
        refine ⟨.agg cells', ?_, .agg _ _ m2 m3⟩
        simp only [Instr.build, Sem.run_bind, r1, Result.andThen_ok, run_und hu, run_size hl, m1]
        simp
      · cases hpl
    · cases hpl
  · cases hb

/- ### a row of zeros -/
theorem repL_len {α : Type} (z : List α) : ∀ n, (repL z n).length = n * z.length := by
  intro n
  induction n with
  | zero => simp [repL]
  | succ n ih => simp [repL, ih, Nat.succ_mul, Nat.add_comm]
theorem repL_get {α : Type} (z : List α) : ∀ (n j : Nat) a, (repL z n)[j]? = some a → z[j % z.length]? = some a := by
  intro n
  induction n with
  | zero => intro j a h; simp [repL] at h
  | succ n ih =>
    intro j a h
    simp only [repL] at h
    rw [List.getElem?_append] at h
    split at h
    · rename_i hj; rwa [Nat.mod_eq_of_lt hj]
    · rename_i hj
      have := ih _ _ h
      rwa [← Nat.mod_eq_sub_mod (by omega)] at this

theorem zeros_ok {z : AV} {zv : Value} {zc : Array Value} {n m : Nat} (hr : AVR ρ H w z zv) (hm : n * z.cells.length ≤ m) (hzc : m ≠ 0 → zc = zv.cells) :
    ∀ (j : Nat) a u, (repL z.cells n)[j]? = some a → ((Array.range m).map (zc[· % zc.size]!))[j]? = some u → AVR ρ H w a u := by
  intro j a u ha hu
  obtain ⟨k1, k2⟩ := hr.cells
  have hlt := (List.getElem?_eq_some_iff.1 ha).1
  rw [repL_len] at hlt
  have hm0 : m ≠ 0 := by omega
  have := repL_get _ _ _ _ ha
  rw [hzc hm0] at hu
  have hz0 : 0 < z.cells.length := by
    rcases Nat.eq_zero_or_pos z.cells.length with h | h
    · rw [h] at hlt; simp at hlt
    · exact h
  have hjm : j % zv.cells.size < zv.cells.size := Nat.mod_lt _ (by omega)
  simp [show j < m by omega] at hu
  refine k2 _ _ _ this ?_
  rw [← k1]
  rw [← hu]
  simp [hjm, getElem!_pos]

theorem buildSlice_ok {t : TypeId} {n : Nat} {l : List (Nat × AV)} {ps : Array (Nat × Value)} {S0 nid} {d : D} (h : HR ρ H w) (hps : PartsR ρ H w l ps.toList)
    (h0 : ∀ S, S0 S → ∀ (j : Nat) i a, l[j]? = some (i, a) → RB S a) (hd : buildSliceA P t n l nid = some d) :
    ∃ u w', (Instr.buildSlice t n ps).run P w = .ok u w' ∧ Fin ρ H w w' S0 nid u d := by
  unfold buildSliceA at hd
  split at hd
  · rename_i e he
    split at hd
    · rename_i z hz
      split at hd
      · rename_i zv hzv
        obtain ⟨hc, hd⟩ := cnd_some.1 hd
        simp at hc
        obtain ⟨hc1, hc2⟩ := hc
        split at hd
        · rename_i cs hcs
          obtain ⟨_, hd⟩ := cnd_some.1 hd
          obtain ⟨zu, r1, _, r3⟩ := zeroT_ok hzv
          have hu : P.underlying t = some (.slice e) := by
            unfold elemT at he
            split at he
            · cases he; assumption
            · cases he
          let zc : Array Value := if n * z = 0 then #[] else zu.cells
          obtain ⟨cells', m1, m2, m3⟩ := fill_ok (place' := fun i => some (i * z, z)) (fun i x hx => hx) l ps.toList (repL zv.cells n) cs ((Array.range (n * z)).map (zc[· % zc.size]!)) hps
            (by simp [repL_len, hc1]) (zeros_ok (r3 ρ H w) (by rw [hc1]; exact Nat.le_refl _) (fun h0 => by simp [zc, h0])) hcs
          have hcl : cells'.size = n * z := by
            rw [m2]
            have : ∀ (l : List (Nat × AV)) (a b : List AV), fillS z l a = some b → b.length = a.length := by
              intro l
              induction l with
              | nil => intro a b h; simp [fillS, fillA] at h; rw [h]
              | cons x l ih =>
                intro a b h
                obtain ⟨i, v⟩ := x
                simp only [fillS, fillA] at h
                obtain ⟨_, h⟩ := cnd_some.1 h
                split at h
                · rename_i c1 hc1
                  rw [ih _ _ h, put_len hc1]
                · cases h
            rw [this _ _ _ hcs, repL_len, hc1]
          refine ⟨_, _, ?_, newRow_fin (w' := { w with heap := w.heap.push (.cells cells' e (0, 0)) }) (c := n) h rfl ⟨rfl, rfl, rfl⟩ (by omega) m3 (Nat.le_refl _) (fun _ => rfl) (by omega) (fun S hs _ => ?_) hd⟩
          · simp only [Instr.buildSlice, Sem.run_bind, run_und hu, Result.andThen_ok, run_size hz]
            rw [if_neg (by omega)]
            by_cases h0 : n * z = 0
            · have hz0 : zc = #[] := by simp [zc, h0]
              rw [hz0] at m1
              rw [if_pos h0]
              simp only [Sem.run_bind, Sem.run_pure, Result.andThen_ok, m1]
              simp [newRow]
            · have hz0 : zc = zu.cells := by simp [zc, h0]
              rw [hz0] at m1
              rw [if_neg h0]
              simp only [Sem.run_bind, Sem.run_pure, Result.andThen_ok, r1, m1]
              simp [newRow]
          · exact fillA_rb l _ _ hcs (h0 S hs) (fun j a ha => by
              have := repL_get _ _ _ _ ha
              exact cells_rb (zero_rb hzv S) this)
        · cases hd
      · cases hd
    · cases hd
  · cases hd

theorem makeMap_ok {t : TypeId} {r : Option Value} {S0 nid} {d : D} (h : HR ρ H w) (hr : ∀ u, r = some u → (∃ kv, mapT P t = some kv) ∧ ∃ k n, u = .int k n) (hd : made (.mref nid) [] (.map 0 [] 0) = some d) :
    ∃ u w', (Instr.makeMap t r).run P w = .ok u w' ∧ Fin ρ H w w' S0 nid u d := by
  cases hd
  refine ⟨.map (some w.heap.size), { w with heap := w.heap.push (.map #[] 0) }, ?_, ?_⟩
  · cases r with
    | none => simp [Instr.makeMap]
    | some u =>
      obtain ⟨⟨⟨kt, et⟩, hm⟩, k, n, rfl⟩ := hr u rfl
      unfold mapT at hm
      split at hm
      · rename_i hu
        simp [Instr.makeMap, run_und hu, asInt, asIntOf]
      · cases hm
  · intro S H' low hF hS hval hs0 hdead
    exact ⟨(w.heap.size, 0), fin_new h rfl ⟨rfl, rfl, rfl⟩ hF hS hval (fun j k v b hj => by simp at hj) hdead ⟨#[], by simp, rfl, fun j k v b hj => by simp at hj⟩,
      .mref _ _ hF.has fun wc es cl hg => by simp [upd_same]⟩

theorem makeSlice_ok {t : TypeId} {l c : AV} {ul uc : Value} {S0 nid} {d : D} (h : HR ρ H w) (hl : AVR ρ H w l ul) (hcc : AVR ρ H w c uc) (hd : makeSliceA P t l c nid = some d) :
    ∃ u w', (Instr.makeSlice t ul uc).run P w = .ok u w' ∧ Fin ρ H w w' S0 nid u d := by
  unfold makeSliceA at hd
  split at hd
  · rename_i e he
    split at hd
    · rename_i ln hln
      split at hd
      · rename_i cn hcn
        split at hd
        · rename_i i hi
          split at hd
          · rename_i z hz
            obtain ⟨hc, hd⟩ := cnd_some.1 hd
            simp at hc
            obtain ⟨⟨⟨⟨hc1, hc2⟩, hc3⟩, hc4⟩, hc5⟩ := hc
            obtain ⟨k1, rfl⟩ := natOf_ok hl hln
            obtain ⟨k2, rfl⟩ := natOf_ok hcc hcn
            obtain ⟨zu, r1, _, r3⟩ := zeroT_ok hz
            have hu : P.underlying t = some (.slice e) := by
              unfold elemT at he
              split at he
              · cases he; assumption
              · cases he
            have hsz : sizeT P e = some i.size := by simp [sizeT, hi]
            let zc : Array Value := if cn * i.size = 0 then #[] else zu.cells
            have e1 : IntKind.i64.wrap (Int.ofNat ln) = Int.ofNat ln := wrap_i64 (by simp) (by simp; omega)
            have e2 : IntKind.i64.wrap (Int.ofNat cn) = Int.ofNat cn := wrap_i64 (by simp) (by simp; omega)
            refine ⟨.slice (some ⟨w.heap.size, 0, none⟩) ln cn, _, ?_, newRow_fin (w' := { w with heap := w.heap.push (.cells ((Array.range (cn * i.size)).map (zc[· % zc.size]!)) e (0, 0)) }) (c := cn) h rfl ⟨rfl, rfl, rfl⟩ ?_ ?_ hc1 (fun hx => ?_) ?_ (fun S hs _ => ?_) hd⟩
            · have hb : ((i.bytes : Int) * (cn : Int) > 2 ^ 48) = False := by
                simp only [eq_iff_iff, iff_false]
                have : (i.bytes : Int) * cn = ((cn * i.bytes : Nat) : Int) := by simp [Int.mul_comm]
                rw [this]
                have : ((2 : Int) ^ 48) = ((281474976710656 : Nat) : Int) := by decide
                rw [this]; omega
              simp only [Instr.makeSlice, Sem.run_bind, run_und hu, Result.andThen_ok, asInt, asIntOf, Sem.run_pure, run_info hi, e1, e2]
              rw [if_neg]
              · simp only [Sem.run_bind, run_askRoom, Result.andThen_ok, run_size hsz, Int.toNat_natCast, Int.ofNat_eq_natCast]
                by_cases h0 : cn * i.size = 0
                · rw [if_pos h0]; simp [newRow, zc, h0]
                · rw [if_neg h0]; simp [newRow, zc, h0, r1]
              · simp only [Int.ofNat_eq_natCast, hb]
                simp; omega
            · simp [repL_len, hc4]; exact Nat.mul_le_mul_right _ hc1
            · exact zeros_ok (r3 ρ H w) (by rw [hc4]; exact Nat.mul_le_mul_right _ hc1) (fun h0 => by simp [zc, h0])
            · have : ln = cn := by simpa using hx
              exact this.symm
            · simp
            · intro j a ha
              exact cells_rb (zero_rb hz S) (repL_get _ _ _ _ ha)
          · cases hd
        · cases hd
      · cases hd
    · cases hd
  · cases hd

end Go.Proofs.YtobejienmopklaaGreatDoor.Ev

/- Maps. -/
namespace Go.Proofs.YtobejienmopklaaGreatDoor.Ev
set_option linter.unusedSimpArgs false
variable {P : Program} {ρ : Rho} {H : Heap} {w : World}

theorem run_getMap {r : Nat} {ces : Array MapEntry} {cl : Nat} (h : w.heap[r]? = some (.map ces cl)) : (getObj r).run P w = .ok (.map ces cl) w := by
  simp only [getObj, Sem.run, h]
theorem run_setMap {r : Nat} {ces : Array MapEntry} {cl : Nat} (o : Obj) (h : w.heap[r]? = some (.map ces cl)) : (setObj r o).run P w = .ok () { w with heap := w.heap.setIfInBounds r o } := by
  simp only [setObj, Sem.run, h]

def EsR (ρ : Rho) (H : Heap) (w : World) (es : List (AV × AV × Nat)) (ces : List MapEntry) : Prop := ces.length = es.length ∧
  ∀ (j : Nat) k v b, es[j]? = some (k, v, b) → ∃ e, ces[j]? = some e ∧ AVR ρ H w k e.key ∧ AVR ρ H w v e.val ∧ e.born = b

theorem EsR.tail {x : AV × AV × Nat} {es : List (AV × AV × Nat)} {e : MapEntry} {ces : List MapEntry} (h : EsR ρ H w (x :: es) (e :: ces)) : EsR ρ H w es ces :=
  ⟨by simpa using h.1, fun j k v b hj => by simpa using h.2 (j + 1) k v b (by simpa using hj)⟩
theorem EsR.head {k v : AV} {b : Nat} {es : List (AV × AV × Nat)} {e : MapEntry} {ces : List MapEntry} (h : EsR ρ H w ((k, v, b) :: es) (e :: ces)) : AVR ρ H w k e.key ∧ AVR ρ H w v e.val ∧ e.born = b := by
  obtain ⟨e', h1, h2⟩ := h.2 0 k v b rfl
  simp at h1; subst h1; exact h2

theorem bytes_beq (x y : ByteArray) : eqL (bytes x) (bytes y) = (x == y) := by
  have e : (x == y) = (x.data == y.data) := rfl
  rw [eqL_eq, e, Bool.eq_iff_iff]
  simp only [decide_eq_true_eq, beq_iff_eq]
  exact ⟨fun h => by rw [bytes_inj h], fun h => by cases x; cases y; simp at h; rw [h]⟩

/-- The evaluator's equality of keys, for the types that the model compares at once. -/
theorem now_ok {kt : TypeId} {d : TypeDesc} (hd : P.underlying kt = some d) (hf : flatT P kt = true) {a b : AV} {c : Bool} {x y : Value} (h : eqNow P kt a b = some c) (hx : AVR ρ H w a x) (hy : AVR ρ H w b y) :
    Instr.sameNow d x y = some c := by
  unfold flatT at hf
  unfold eqNow at h
  rw [hd] at hf h
  cases d <;> simp only at hf h <;> try (cases hf; done)
  · -- bool
    cases a <;> try simp only at h <;> try (cases h; done)
    cases b <;> try simp only at h <;> try (cases h; done)
    cases hx; cases hy; simpa [Instr.sameNow] using h
  · cases a <;> try simp only at h <;> try (cases h; done)
    cases b <;> try simp only at h <;> try (cases h; done)
    cases hx; cases hy; simpa [Instr.sameNow] using h
  · cases a <;> try simp only at h <;> try (cases h; done)
    cases b <;> try simp only at h <;> try (cases h; done)
    rename_i s1 s2
    cases hx with
    | str _ b1 e1 =>
      cases hy with
      | str _ b2 e2 =>
        subst e1; subst e2
        rw [bytes_beq] at h
        simpa [Instr.sameNow] using h

/-- what was found, abstract and in the world -/
def FoundR (es : List (AV × AV × Nat)) (ces : List MapEntry) (i0 : Nat) : Option (Nat × AV × AV × Nat) → Option (Nat × Value) → Prop
  | none, none => True
  | some (i, k, v, b), some (i', u) => i' = i ∧ i0 ≤ i ∧ es[i - i0]? = some (k, v, b) ∧ ∃ e, ces[i - i0]? = some e ∧ e.val = u
  | _, _ => False

theorem FoundR.step {x : AV × AV × Nat} {es : List (AV × AV × Nat)} {e : MapEntry} {ces : List MapEntry} {i : Nat} : ∀ {r r'}, FoundR es ces (i + 1) r r' → FoundR (x :: es) (e :: ces) i r r'
  | none, none, _ => trivial
  | some (j, k, v, b), some (j', u), ⟨h1, h2, h3, e', h4, h5⟩ =>
    ⟨h1, by omega, by rw [show j - i = (j - (i + 1)) + 1 by omega]; simpa using h3, e', by rw [show j - i = (j - (i + 1)) + 1 by omega]; simpa using h4, h5⟩
  | none, some _, h => h.elim
  | some _, none, h => h.elim

theorem findNow_ok {kt : TypeId} {d : TypeDesc} (hd : P.underlying kt = some d) (hf : flatT P kt = true) {k : AV} {uk : Value} (hk : AVR ρ H w k uk) : ∀ (es : List (AV × AV × Nat)) (ces : List MapEntry) (i : Nat) r,
    EsR ρ H w es ces → findK (eqNow P kt) k es i = some r → ∃ r', Instr.findNow d uk ces i = some r' ∧ FoundR es ces i r r' := by
  intro es
  induction es with
  | nil =>
    intro ces i r he h
    have : ces = [] := List.eq_nil_of_length_eq_zero he.1
    subst this
    simp [findK] at h
    subst h
    exact ⟨none, rfl, trivial⟩
  | cons x es ih =>
    intro ces i r he h
    obtain ⟨k', v, b⟩ := x
    cases ces with
    | nil => have := he.1; simp at this
    | cons e ces =>
      obtain ⟨h1, h2, h3⟩ := he.head
      simp only [findK] at h
      split at h
      · rename_i hq
        cases h
        have := now_ok hd hf hq hk h1
        refine ⟨some (i, e.val), by simp [Instr.findNow, this], rfl, Nat.le_refl _, by simp, e, by simp, rfl⟩
      · rename_i hq
        have := now_ok hd hf hq hk h1
        obtain ⟨r', m1, m2⟩ := ih ces (i + 1) r he.tail h
        exact ⟨r', by simp [Instr.findNow, this, m1], m2.step⟩
      · cases h

theorem findAsking_ok {kt : TypeId} {k : AV} {uk : Value} (hk : AVR ρ H w k uk) : ∀ (es : List (AV × AV × Nat)) (ces : List MapEntry) (i : Nat) r,
    EsR ρ H w es ces → findK (eqA P 100 kt) k es i = some r → ∃ r', (Instr.findAsking kt uk ces i).run P w = .ok r' w ∧ FoundR es ces i r r' := by
  intro es
  induction es with
  | nil =>
    intro ces i r he h
    have : ces = [] := List.eq_nil_of_length_eq_zero he.1
    subst this
    simp [findK] at h
    subst h
    exact ⟨none, rfl, trivial⟩
  | cons x es ih =>
    intro ces i r he h
    obtain ⟨k', v, b⟩ := x
    cases ces with
    | nil => have := he.1; simp at this
    | cons e ces =>
      obtain ⟨h1, h2, h3⟩ := he.head
      have heq : ∀ c, eqA P 100 kt k k' = some c → (Op.equal kt uk e.key).run P w = .ok c w := fun c hc => eqA_ok 100 Op.maxDepth (by decide) _ _ _ _ _ _ hc hk h1
      simp only [findK] at h
      split at h
      · rename_i hq
        cases h
        refine ⟨some (i, e.val), by simp [Instr.findAsking, heq _ hq], rfl, Nat.le_refl _, by simp, e, by simp, rfl⟩
      · rename_i hq
        obtain ⟨r', m1, m2⟩ := ih ces (i + 1) r he.tail h
        exact ⟨r', by simp [Instr.findAsking, heq _ hq, m1], m2.step⟩
      · cases h

theorem findKey_ok {kt : TypeId} {k : AV} {uk : Value} (hk : AVR ρ H w k uk) {es : List (AV × AV × Nat)} {ces : List MapEntry} {r} (hka : keyA P kt k = true)
    (he : EsR ρ H w es ces) (h : findK (eqNow P kt) k es 0 = some r) : ∃ r', (Instr.findKey kt uk ces).run P w = .ok r' w ∧ FoundR es ces 0 r r' := by
  unfold keyA at hka
  have flat : ∀ d, P.underlying kt = some d → flatT P kt = true → ∃ r', (Instr.findKey kt uk ces).run P w = .ok r' w ∧ FoundR es ces 0 r r' := by
    intro d hd hf
    obtain ⟨r', m1, m2⟩ := findNow_ok hd hf hk es ces 0 r he h
    exact ⟨r', by simp [Instr.findKey, run_und hd, m1], m2⟩
  cases hd : P.underlying kt with
  | none => rw [hd] at hka; cases hka
  | some d =>
    by_cases hfl : flatT P kt = true
    · exact flat d hd hfl
    have : (∃ fs, d = .struct fs) ∨ ∃ n e, d = .array n e := by
      rw [hd] at hka
      unfold flatT at hfl
      rw [hd] at hfl
      cases d <;> simp at hka hfl <;> first | exact .inl ⟨_, rfl⟩ | exact .inr ⟨_, _, rfl⟩
    have heq : eqNow P kt = eqA P 100 kt := by rcases this with ⟨fs, rfl⟩ | ⟨n, e, rfl⟩ <;> (unfold eqNow; rw [hd])
    rw [heq] at h
    obtain ⟨r', m1, m2⟩ := findAsking_ok hk es ces 0 r he h
    refine ⟨r', ?_, m2⟩
    cases ces with
    | nil =>
      have : r' = none := by simpa [Instr.findAsking] using m1.symm
      subst this
      simp [Instr.findKey, run_und hd, Instr.findNow]
    | cons e ces => rcases this with ⟨fs, rfl⟩ | ⟨n, e', rfl⟩ <;> simp [Instr.findKey, run_und hd, Instr.findNow, Instr.sameNow, m1]

theorem checkKey_flat {t : TypeId} {u : Value} (e : Bool) (n : Nat) (h : flatT P t = true) : (Instr.checkKey e (n + 1) t u).run P w = .ok () w := by
  unfold flatT at h
  split at h
  · rename_i hd; simp [Instr.checkKey, run_und hd]
  · rename_i hd; simp [Instr.checkKey, run_und hd]
  · rename_i hd; simp [Instr.checkKey, run_und hd]
  · cases h

theorem keyElems_ok {e : Bool} {m : Nat} {el : TypeId} {z : Nat} {cs : List AV} {vs : Array Value} (hz : sizeT P el = some z) (hf : flatT P el = true) (h1 : vs.size = cs.length)
    (h2 : ∀ (j : Nat) a v, cs[j]? = some a → vs[j]? = some v → AVR ρ H w a v) : ∀ (n s : Nat), arrParts P el cs z n (s * z) = true →
    (forIn (List.range' s n) PUnit.unit (fun i (_ : PUnit) => do
      let __do_lift ← sizeOf el
      let __do_lift ← part el vs (i * __do_lift)
      Instr.checkKey e (m + 1) el __do_lift
      pure (ForInStep.yield PUnit.unit) : Nat → PUnit → Sem (ForInStep PUnit))).run P w = .ok PUnit.unit w := by
  intro n
  induction n with
  | zero => intro s _; simp
  | succ n ih =>
    intro s h
    simp only [arrParts, Bool.and_eq_true] at h
    obtain ⟨a, ha⟩ := Option.isSome_iff_exists.1 h.1
    obtain ⟨v, hv, _⟩ := partA_ok (w := w) h1 h2 ha
    have hi := ih (s + 1) (by rw [Nat.succ_mul]; exact h.2)
    simp [List.range'_succ, List.forIn_cons, run_size hz, hv, checkKey_flat e m hf] at hi ⊢
    exact hi

theorem checkKey_ok' {kt : TypeId} {k : AV} {uk : Value} (e : Bool) (n : Nat) (hk : AVR ρ H w k uk) (h : keyA P kt k = true) : (Instr.checkKey e (n + 2) kt uk).run P w = .ok () w := by
  unfold keyA at h
  cases hd : P.underlying kt with
  | none => rw [hd] at h; cases h
  | some d =>
    by_cases hfl : flatT P kt = true
    · exact checkKey_flat e (n + 1) hfl
    have : (∃ fs, d = .struct fs) ∨ ∃ n e, d = .array n e := by
      rw [hd] at h
      unfold flatT at hfl
      rw [hd] at hfl
      cases d <;> simp at h hfl <;> first | exact .inl ⟨_, rfl⟩ | exact .inr ⟨_, _, rfl⟩
    rcases this with ⟨fs, rfl⟩ | ⟨len, el, rfl⟩
    case inr =>
      rw [hd] at h
      simp only at h
      split at h
      case h_2 => cases h
      rename_i cs z hz
      simp only [Bool.and_eq_true] at h
      cases hk with
      | agg _ vs h1 h2 =>
        have := keyElems_ok (P := P) (ρ := ρ) (H := H) (w := w) (e := e) (m := n) hz h.1 h1 h2 len 0 (by simpa using h.2)
        simp [Instr.checkKey, run_und hd, Std.Legacy.Range.forIn_eq_forIn_range', Std.Legacy.Range.size] at this ⊢
        exact this
    rw [hd] at h
    cases k <;> simp only at h <;> try (cases h; done)
    rename_i cs
    cases hk with
    | agg _ vs h1 h2 =>
      have key : ∀ l : List Field, (l.all fun f => flatT P f.type && (partA P f.type cs f.offset).isSome) = true →
          (forIn l PUnit.unit (fun f (_ : PUnit) => do
            if f.name ≠ "_" then Instr.checkKey e (n + 1) f.type (← part f.type vs f.offset)
            pure (ForInStep.yield PUnit.unit) : Field → PUnit → Sem (ForInStep PUnit))).run P w = .ok PUnit.unit w := by
        intro l
        induction l with
        | nil => intro _; simp
        | cons f l ih =>
          intro hl
          simp only [List.all_cons, Bool.and_eq_true] at hl
          obtain ⟨⟨f1, f2⟩, f3⟩ := hl
          obtain ⟨a, ha⟩ := Option.isSome_iff_exists.1 f2
          obtain ⟨v, hv, _⟩ := partA_ok (w := w) h1 h2 ha
          have := ih f3
          by_cases hn : f.name = "_"
          · simp [List.forIn_cons, hn] at this ⊢; exact this
          · simp [List.forIn_cons, hn, hv, checkKey_flat e n f1] at this ⊢; exact this
      have := key fs.toList h
      simp [Instr.checkKey, run_und hd] at this ⊢
      exact this

theorem checkKey_ok {kt : TypeId} {k : AV} {uk : Value} (e : Bool) (hk : AVR ρ H w k uk) (h : keyA P kt k = true) : (Instr.checkKey e 10000 kt uk).run P w = .ok () w := checkKey_ok' e 9998 hk h

theorem sameL_ok {f : AV → AV → Bool} {n : Nat} (hf : ∀ a b x y, f a b = true → AVR ρ H w a x → AVR ρ H w b y → Instr.sameBits n x y = true) : ∀ (as bs : List AV) (xs ys : List Value),
    sameL f as bs = true → xs.length = as.length → ys.length = bs.length → (∀ (j : Nat) a u, as[j]? = some a → xs[j]? = some u → AVR ρ H w a u) → (∀ (j : Nat) a u, bs[j]? = some a → ys[j]? = some u → AVR ρ H w a u) →
    xs.length = ys.length ∧ ((xs.zip ys).all fun (x, y) => Instr.sameBits n x y) = true := by
  intro as
  induction as with
  | nil =>
    intro bs xs ys h hx hy _ _
    cases bs with
    | nil => have e1 : xs = [] := List.eq_nil_of_length_eq_zero hx
             have e2 : ys = [] := List.eq_nil_of_length_eq_zero hy
             subst e1; subst e2; simp
    | cons b bs => simp [sameL] at h
  | cons a as ih =>
    intro bs xs ys h hx hy r1 r2
    cases bs with
    | nil => simp [sameL] at h
    | cons b bs =>
      cases xs with
      | nil => simp at hx
      | cons x xs =>
        cases ys with
        | nil => simp at hy
        | cons y ys =>
          simp only [sameL] at h
          rw [cnd_eq] at h
          split at h
          · rename_i hfa
            obtain ⟨i1, i2⟩ := ih bs xs ys h (by simpa using hx) (by simpa using hy) (fun j a u h1 h2 => r1 (j + 1) a u (by simpa using h1) (by simpa using h2)) (fun j a u h1 h2 => r2 (j + 1) a u (by simpa using h1) (by simpa using h2))
            refine ⟨by simp [i1], ?_⟩
            simp only [List.zip_cons_cons, List.all_cons, Bool.and_eq_true]
            exact ⟨hf _ _ _ _ hfa (r1 0 a x rfl rfl) (r2 0 b y rfl rfl), i2⟩
          · cases h

theorem sameA_ok : ∀ (n m : Nat), n ≤ m → ∀ a b x y, sameA n a b = true → AVR ρ H w a x → AVR ρ H w b y → Instr.sameBits m x y = true := by
  intro n
  induction n with
  | zero => intro m _ a b x y h; simp [sameA] at h
  | succ n ih =>
    intro m hm a b x y h hx hy
    obtain ⟨m, rfl⟩ : ∃ k, m = k + 1 := ⟨m - 1, by omega⟩
    unfold sameA at h
    split at h
    · cases hx; cases hy; simpa [Instr.sameBits] using h
    · cases hx; cases hy
      rw [cnd_eq] at h
      split at h
      · rename_i k a k' b hk
        have : k = k' := by
          unfold kEq at hk
          have := Nat.eq_of_beq_eq_true hk
          cases k <;> cases k' <;> first | rfl | (exact absurd this (by decide))
        rw [eqI_eq] at h
        simp [Instr.sameBits, this]; simpa using h
      · cases h
    · cases hx with
      | str _ b1 e1 =>
        cases hy with
        | str _ b2 e2 =>
          subst e1; subst e2
          rw [bytes_beq] at h
          simpa [Instr.sameBits] using h
    · cases hx with
      | agg _ v1 l1 r1 =>
        cases hy with
        | agg _ v2 l2 r2 =>
          obtain ⟨i1, i2⟩ := sameL_ok (fun a b x y => ih m (by omega) a b x y) _ _ v1.toList v2.toList h (by simpa using l1) (by simpa using l2) (fun j a u h1 h2 => r1 j a u h1 (by simpa using h2)) (fun j a u h1 h2 => r2 j a u h1 (by simpa using h2))
          simp only [Instr.sameBits, Bool.and_eq_true, beq_iff_eq]
          exact ⟨by simpa using i1, i2⟩
    · cases h

theorem keyStays_ok {a b : AV} {x y : Value} (h : sameA 100 a b = true) (hx : AVR ρ H w a x) (hy : AVR ρ H w b y) : (Instr.keyThatStays x y).run P w = .ok y w := by
  simp [Instr.keyThatStays, sameA_ok 100 10000 (by decide) a b x y h hx hy]

end Go.Proofs.YtobejienmopklaaGreatDoor.Ev

/- Maps: the operations. -/
namespace Go.Proofs.YtobejienmopklaaGreatDoor.Ev
set_option linter.unusedSimpArgs false
variable {P : Program} {ρ : Rho} {H : Heap} {w : World}

theorem mapT_ok {t kt et : TypeId} (h : mapT P t = some (kt, et)) : P.underlying t = some (.map kt et) := by
  unfold mapT at h
  split at h
  · rename_i hu; cases h; exact hu
  · cases h

theorem HR.es {id wc : Nat} {es cl} (h : HR ρ H w) (hg : H.get id = some (.map wc es cl)) : ∃ ces, w.heap[(ρ id).1]? = some (.map ces cl) ∧ EsR ρ H w es ces.toList := by
  obtain ⟨ces, h1, h2, h3⟩ := h.map _ _ _ _ hg
  exact ⟨ces, h1, by simpa using h2, fun j k v b hj => by simpa using h3 j k v b hj⟩

theorem lookup_ok {t : TypeId} {c : Bool} {m k : AV} {um uk : Value} {d : D} {S0 nid} (h : HR ρ H w) (hm : AVR ρ H w m um) (hk : AVR ρ H w k uk) (hd : lookupA P t c m k H = some d) :
    ∃ u, (Instr.lookup t um uk c).run P w = .ok u w ∧ Fin ρ H w w S0 nid u d := by
  unfold lookupA at hd
  split at hd
  · rename_i kt et hmt
    have hu := mapT_ok hmt
    obtain ⟨hka, hd⟩ := cnd_some.1 hd
    split at hd
    · cases hd
    · rename_i es hes
      obtain ⟨ces, he1, he2⟩ : ∃ ces : Array MapEntry, EsR ρ H w es ces.toList ∧ ((um = .map none ∧ ces = #[]) ∨ ∃ r cl, um = .map (some r) ∧ w.heap[r]? = some (.map ces cl)) := by
        unfold mapEs at hes
        split at hes
        · cases hes; cases hm; exact ⟨#[], ⟨rfl, fun j k v b hj => by simp at hj⟩, .inl ⟨rfl, rfl⟩⟩
        · rename_i id
          split at hes
          · rename_i wc es' cl hg
            cases hes
            obtain ⟨ces, m1, m2⟩ := h.es hg
            cases hm with
            | mref _ r h1 h2 =>
              have := h2 _ _ _ hg
              subst this
              exact ⟨ces, m2, .inr ⟨_, cl, rfl, m1⟩⟩
          · cases hes
        · cases hes
      have hck := checkKey_ok (P := P) (w := w) ces.isEmpty hk hka
      have main : ∀ r, findK (eqNow P kt) k es 0 = some r → ∀ v ok vu, (match r with | some (_, _, v, _) => some (v, true) | none => (zeroT P et).map (·, false)) = some (v, ok) →
          (∀ r', FoundR es ces.toList 0 r r' → (match r' with | some (_, u) => (pure (u, true) : Sem (Value × Bool)) | none => do pure (← zeroValue et, false)).run P w = .ok (vu, ok) w) →
          (Instr.lookup t um uk c).run P w = .ok (if c = true then .tuple #[vu, .bool ok] else vu) w := by
        intro r hr v ok vu _ hvu
        obtain ⟨r', f1, f2⟩ := findKey_ok hk hka he1 hr
        have hvu := hvu r' f2
        rcases he2 with ⟨rfl, rfl⟩ | ⟨rr, cl, rfl, hg⟩
        · simp only [Instr.lookup, Sem.run_bind, run_und hu, Result.andThen_ok, Sem.run_pure]
          rw [hck]
          simp only [Result.andThen_ok, f1]
          cases r' with
          | none => simp at hvu ⊢; cases hz : (zeroValue et).run P w with
            | ok z w1 => rw [hz] at hvu; simp at hvu; obtain ⟨⟨rfl, rfl⟩, rfl⟩ := hvu; simp
            | halt hh w1 => rw [hz] at hvu; simp at hvu
          | some x => obtain ⟨i, u⟩ := x; simp at hvu ⊢; obtain ⟨rfl, rfl⟩ := hvu; simp
        · simp only [Instr.lookup, Sem.run_bind, run_und hu, Result.andThen_ok, Sem.run_pure, run_getMap hg]
          rw [hck]
          simp only [Result.andThen_ok, f1]
          cases r' with
          | none => simp at hvu ⊢; cases hz : (zeroValue et).run P w with
            | ok z w1 => rw [hz] at hvu; simp at hvu; obtain ⟨⟨rfl, rfl⟩, rfl⟩ := hvu; simp
            | halt hh w1 => rw [hz] at hvu; simp at hvu
          | some x => obtain ⟨i, u⟩ := x; simp at hvu ⊢; obtain ⟨rfl, rfl⟩ := hvu; simp
      have fin : ∀ v ok vu, AVR ρ H w v vu → Fin ρ H w w S0 nid (if c = true then .tuple #[vu, .bool ok] else vu) ⟨cnd c (.tup [v, .bool ok]) v, idOf m, [], none⟩ := by
        intro v ok vu hv
        refine fin_val h ?_
        cases c with
        | false => simpa using hv
        | true =>
          simp only [if_true]
          rw [cnd_true]
          refine .tup _ _ rfl fun j a u ha hu => ?_
          cases j with
          | zero => simp at ha hu; subst ha; subst hu; exact hv
          | succ j =>
            cases j with
            | zero => simp at ha hu; subst ha; subst hu; exact .bool _
            | succ j => simp at ha
      split at hd
      · rename_i i k' v b hr
        cases hd
        obtain ⟨r', f1, f2⟩ := findKey_ok hk hka he1 hr
        cases r' with
        | none => exact f2.elim
        | some x =>
          obtain ⟨i', u⟩ := x
          obtain ⟨g1, g2, g3, e, g4, g5⟩ := f2
          obtain ⟨e', q1, q2, q3, q4⟩ := he1.2 _ _ _ _ g3
          rw [g4] at q1; cases q1
          refine ⟨_, main _ hr v true u rfl (fun r' hf => ?_), fin v true u (by rw [← g5]; exact q3)⟩
          cases r' with
          | none => exact hf.elim
          | some y =>
            obtain ⟨i2, u2⟩ := y
            obtain ⟨k1, k2, k3, e2, k4, k5⟩ := hf
            rw [g4] at k4; cases k4
            simp [← k5, g5]
      · rename_i hr
        split at hd
        · rename_i z hz
          cases hd
          obtain ⟨zv, r1, _, r3⟩ := zeroT_ok hz
          refine ⟨_, main _ hr z false zv (by simp [hz]) (fun r' hf => ?_), fin z false zv (r3 _ _ _)⟩
          cases r' with
          | none => simp [r1]
          | some y => exact hf.elim
        · cases hd
      · cases hd
  · cases hd

/-- a map block gets another map -/
theorem setMap_fin {id wc cl cl' : Nat} {es es' : List (AV × AV × Nat)} {ces' : Array MapEntry} {rf : Bool} {v : AV} {uv : Value} {rd : List Nat} {S0 nid} (h : HR ρ H w) (hg : H.get id = some (.map wc es cl))
    (hes : EsR ρ H w es' ces'.toList) (hrf : rf = false → ∀ n, (∀ (j : Nat) k v b, es[j]? = some (k, v, b) → RB (· < n) k ∧ RB (· < n) v) → ∀ (j : Nat) k v b, es'[j]? = some (k, v, b) → RB (· < n) k ∧ RB (· < n) v)
    (hv : AVR ρ H w v uv) :
    Fin ρ H w { w with heap := w.heap.setIfInBounds (ρ id).1 (.map ces' cl') } S0 nid uv ⟨v, rd, [(id, .map (Nat.succ wc) es' cl', rf)], none⟩ := by
  obtain ⟨ces, h1, _⟩ := h.es hg
  have hlt := (Array.getElem?_eq_some_iff.1 h1).1
  have st : ∀ low, Stp ρ H low w ρ (H.set id (.map (Nat.succ wc) es' cl')) (lowOf rf id low) { w with heap := w.heap.setIfInBounds (ρ id).1 (.map ces' cl') } := by
    intro low
    refine stp_map (ces' := ces') (cl' := cl') (hwc := Nat.lt_succ_self _) h hg (by simp [hlt]) (fun b hb => ?_) (by simp) ⟨rfl, rfl, rfl⟩ (by simpa using hes.1) (fun j k v b hj => by simpa using hes.2 j k v b hj) hrf
    exact Array.getElem?_setIfInBounds_ne (Ne.symm hb)
  exact ⟨st, hv.mono (st 0).tra⟩

theorem anyRef_rb {vs : List AV} (h : anyRef vs = false) {S S' : Nat → Prop} {a : AV} (ha : a ∈ vs) (r : RB S a) : RB S' a := by
  obtain ⟨j, hj⟩ := List.mem_iff_getElem?.1 ha
  exact noRef_rb h hj r

theorem EsR.push {es : List (AV × AV × Nat)} {ces : Array MapEntry} {k v : AV} {uk uv : Value} {b : Nat} (h : EsR ρ H w es ces.toList) (hk : AVR ρ H w k uk) (hv : AVR ρ H w v uv) :
    EsR ρ H w (es ++ [(k, v, b)]) (ces.push ⟨uk, uv, b⟩).toList := by
  refine ⟨by simp [h.1], fun j k' v' b' hj => ?_⟩
  have hl := h.1
  by_cases hjl : j < es.length
  · rw [List.getElem?_append_left hjl] at hj
    obtain ⟨e, h1, h2⟩ := h.2 j k' v' b' hj
    refine ⟨e, ?_, h2⟩
    rw [Array.toList_push, List.getElem?_append_left (by omega)]; exact h1
  · rw [List.getElem?_append_right (by omega)] at hj
    have : j = es.length := by
      have := (List.getElem?_eq_some_iff.1 hj).1
      simp at this; omega
    subst this
    simp at hj
    obtain ⟨rfl, rfl, rfl⟩ := hj
    exact ⟨⟨uk, uv, b⟩, by rw [Array.toList_push, List.getElem?_append_right (by omega), hl]; simp, hk, hv, rfl⟩

theorem EsR.modify {es : List (AV × AV × Nat)} {ces : Array MapEntry} {k v : AV} {b i : Nat} {f : MapEntry → MapEntry} (h : EsR ρ H w es ces.toList)
    (hf : ∀ e, ces[i]? = some e → AVR ρ H w k (f e).key ∧ AVR ρ H w v (f e).val ∧ (f e).born = b) :
    EsR ρ H w (setN es i (k, v, b)) (ces.modify i f).toList := by
  rw [setN_eq]
  refine ⟨by simpa using h.1, fun j k' v' b' hj => ?_⟩
  rw [List.getElem?_set] at hj
  split at hj
  · rename_i hij
    subst hij
    split at hj
    · rename_i hlt
      simp at hj
      obtain ⟨rfl, rfl, rfl⟩ := hj
      have hl := h.1
      have hc : ces[i]? = some (ces[i]'(by simp at hl; omega)) := Array.getElem?_eq_getElem _
      have := hf _ hc
      refine ⟨f (ces[i]'(by simp at hl; omega)), ?_, this⟩
      simp [Array.getElem?_modify, hc]
    · cases hj
  · rename_i hij
    obtain ⟨e, h1, h2⟩ := h.2 j k' v' b' hj
    refine ⟨e, ?_, h2⟩
    simp at h1 ⊢
    rw [List.getElem?_modify]; simp [h1, hij]

theorem es_append_rb {n : Nat} {es : List (AV × AV × Nat)} {x : AV × AV × Nat} (h1 : ∀ (j : Nat) k v b, es[j]? = some (k, v, b) → RB (· < n) k ∧ RB (· < n) v) (h2 : RB (· < n) x.1 ∧ RB (· < n) x.2.1) :
    ∀ (j : Nat) k v b, (es ++ [x])[j]? = some (k, v, b) → RB (· < n) k ∧ RB (· < n) v := by
  intro j k v b hj
  rw [List.getElem?_append] at hj
  split at hj
  · exact h1 _ _ _ _ hj
  · have := List.mem_of_getElem? hj
    simp at this
    subst this; exact h2
theorem es_set_rb {n i : Nat} {es : List (AV × AV × Nat)} {x : AV × AV × Nat} (h1 : ∀ (j : Nat) k v b, es[j]? = some (k, v, b) → RB (· < n) k ∧ RB (· < n) v) (h2 : RB (· < n) x.1 ∧ RB (· < n) x.2.1) :
    ∀ (j : Nat) k v b, (setN es i x)[j]? = some (k, v, b) → RB (· < n) k ∧ RB (· < n) v := by
  intro j k v b hj
  rw [setN_eq, List.getElem?_set] at hj
  split at hj
  · split at hj
    · simp at hj; subst hj; exact h2
    · cases hj
  · exact h1 _ _ _ _ hj

theorem update_ok {t : TypeId} {m k x : AV} {um uk ux : Value} {d : D} {S0 nid} (h : HR ρ H w) (hm : AVR ρ H w m um) (hk : AVR ρ H w k uk) (hx : AVR ρ H w x ux) (hd : updateA P t m k x H = some d) :
    ∃ w', (Instr.mapUpdate t um uk ux).run P w = .ok () w' ∧ Fin ρ H w w' S0 nid Go.undef d := by
  unfold updateA at hd
  split at hd
  · rename_i kt et id hmt
    have hu := mapT_ok hmt
    obtain ⟨hka, hd⟩ := cnd_some.1 hd
    split at hd
    · rename_i wc es cl hg
      obtain ⟨ces, m1, m2⟩ := h.es hg
      cases hm with
      | mref _ r h1 h2 =>
        have := h2 _ _ _ hg
        subst this
        have hck := checkKey_ok (P := P) (w := w) false hk hka
        split at hd
        · rename_i i k' v b hr
          obtain ⟨hs, hd⟩ := cnd_some.1 hd
          cases hd
          obtain ⟨r', f1, f2⟩ := findKey_ok hk hka m2 hr
          cases r' with
          | none => exact f2.elim
          | some y =>
            obtain ⟨i', u⟩ := y
            obtain ⟨rfl, _, g3, e, g4, g5⟩ := f2
            simp only [Nat.sub_zero] at g3 g4
            obtain ⟨e', q1, q2, q3, q4⟩ := m2.2 _ _ _ _ g3
            rw [g4] at q1; cases q1
            have g4' : ces[i']? = some e := by simpa using g4
            have hks := keyStays_ok (P := P) (w := w) hs q2 hk
            refine ⟨_, ?_, setMap_fin (ces' := ces.modify i' fun e => { e with key := uk, val := ux }) (cl' := cl) h hg (m2.modify fun e2 he2 => ?_) (fun hrf n hn => ?_) .undef⟩
            · simp only [Instr.mapUpdate, Sem.run_bind, run_und hu, Result.andThen_ok, run_getMap m1, hck, f1, g4']
              simp only [Option.map_some, Option.getD_some]
              rw [hks]
              simp only [Result.andThen_ok, run_setMap _ m1]
            · rw [g4'] at he2; cases he2
              exact ⟨hk, hx, q4⟩
            · exact es_set_rb hn ⟨anyRef_rb hrf (by simp) hk.rb, anyRef_rb hrf (by simp) hx.rb⟩
        · rename_i hr
          cases hd
          obtain ⟨r', f1, f2⟩ := findKey_ok hk hka m2 hr
          cases r' with
          | some y => exact f2.elim
          | none =>
            refine ⟨_, ?_, setMap_fin (ces' := ces.push ⟨uk, ux, cl⟩) (cl' := cl + 1) h hg (m2.push hk hx) (fun hrf n hn => ?_) .undef⟩
            · simp only [Instr.mapUpdate, Sem.run_bind, run_und hu, Result.andThen_ok, run_getMap m1, hck, f1, run_setMap _ m1]
            · exact es_append_rb hn ⟨anyRef_rb hrf (by simp) hk.rb, anyRef_rb hrf (by simp) hx.rb⟩
        · cases hd
    · cases hd
  · cases hd

theorem entry_ok {t : TypeId} {m k : AV} {um uk : Value} {d : D} {S0 nid} (h : HR ρ H w) (hm : AVR ρ H w m um) (hk : AVR ρ H w k uk) (hd : entryA P t m k H = some d) :
    ∃ u w', (Instr.mapEntry t um uk).run P w = .ok u w' ∧ Fin ρ H w w' S0 nid u d := by
  unfold entryA at hd
  split at hd
  · rename_i kt et id hmt
    have hu := mapT_ok hmt
    obtain ⟨hka, hd⟩ := cnd_some.1 hd
    obtain ⟨hkk, hd⟩ := cnd_some.1 hd
    split at hd
    · rename_i wc es cl hg
      obtain ⟨ces, m1, m2⟩ := h.es hg
      have two : ∀ {v : AV} {uv : Value} {n : Nat}, AVR ρ H w v uv → AVR ρ H w (.tup [v, .int .i64 (Int.ofNat n)]) (.tuple #[uv, goInt n]) := by
        intro v uv n hv
        refine .tup _ _ rfl fun j a u ha hu => ?_
        cases j with
        | zero => simp at ha hu; subst ha; subst hu; exact hv
        | succ j =>
          cases j with
          | zero => simp at ha hu; subst ha; subst hu; exact .int _ _
          | succ j => simp at ha
      cases hm with
      | mref _ r h1 h2 =>
        have := h2 _ _ _ hg
        subst this
        have hck := checkKey_ok (P := P) (w := w) false hk hka
        split at hd
        · rename_i i k' v b hr
          obtain ⟨hs, hd⟩ := cnd_some.1 hd
          cases hd
          obtain ⟨r', f1, f2⟩ := findKey_ok hk hka m2 hr
          cases r' with
          | none => exact f2.elim
          | some y =>
            obtain ⟨i', u⟩ := y
            obtain ⟨rfl, _, g3, e, g4, g5⟩ := f2
            simp only [Nat.sub_zero] at g3 g4
            obtain ⟨e', q1, q2, q3, q4⟩ := m2.2 _ _ _ _ g3
            rw [g4] at q1; cases q1
            have g4' : ces[i']? = some e := by simpa using g4
            have hks := keyStays_ok (P := P) (w := w) hs q2 hk
            refine ⟨.tuple #[u, goInt b], _, ?_, setMap_fin (ces' := ces.modify i' fun e => { e with key := uk }) (cl' := cl) h hg (m2.modify fun e2 he2 => ?_) (fun hrf n hn => ?_) (two (by rw [← g5]; exact q3))⟩
            · simp only [Instr.mapEntry, Sem.run_bind, run_und hu, Result.andThen_ok, run_getMap m1, hck, f1, g4']
              simp only [Option.map_some, Option.getD_some]
              rw [hks]
              simp only [Result.andThen_ok, run_setMap _ m1, q4, Sem.run_pure]
            · rw [g4'] at he2; cases he2
              exact ⟨hk, q3, q4⟩
            · exact es_set_rb hn ⟨anyRef_rb hrf (by simp) hk.rb, (hn _ _ _ _ g3).2⟩
        · rename_i hr
          split at hd
          · rename_i z hz
            cases hd
            obtain ⟨zv, r1, _, r3⟩ := zeroT_ok hz
            obtain ⟨r', f1, f2⟩ := findKey_ok hk hka m2 hr
            cases r' with
            | some y => exact f2.elim
            | none =>
              refine ⟨.tuple #[zv, goInt cl], _, ?_, setMap_fin (ces' := ces.push ⟨uk, zv, cl⟩) (cl' := cl + 1) h hg (m2.push hk (r3 _ _ _)) (fun hrf n hn => ?_) (two (r3 _ _ _))⟩
              · simp only [Instr.mapEntry, Sem.run_bind, run_und hu, Result.andThen_ok, run_getMap m1, hck, f1, r1, run_setMap _ m1, Sem.run_pure]
              · exact es_append_rb hn ⟨anyRef_rb hrf (by simp) hk.rb, anyRef_rb hrf (by simp) (r3 ρ H w).rb⟩
          · cases hd
        · cases hd
    · cases hd
  · cases hd

theorem setBorn_ok {born : Nat} {x : AV} {ux : Value} (hx : AVR ρ H w x ux) : ∀ (es es' : List (AV × AV × Nat)) (ces : List MapEntry), EsR ρ H w es ces → setBorn born x es = some es' →
    ∃ i, ces.findIdx? (fun e => (e.born : Int) == Int.ofNat born) = some i ∧ i < ces.length ∧ EsR ρ H w es' (ces.modify i fun e => { e with val := ux }) ∧
      ∀ n, (∀ (j : Nat) k v b, es[j]? = some (k, v, b) → RB (· < n) k ∧ RB (· < n) v) → RB (· < n) x → ∀ (j : Nat) k v b, es'[j]? = some (k, v, b) → RB (· < n) k ∧ RB (· < n) v := by
  intro es
  induction es with
  | nil => intro es' ces _ h; simp [setBorn] at h
  | cons y es ih =>
    intro es' ces he h
    obtain ⟨k, v, b⟩ := y
    cases ces with
    | nil => have := he.1; simp at this
    | cons e ces =>
      obtain ⟨h1, h2, h3⟩ := he.head
      simp only [setBorn] at h
      rw [cnd_eq] at h
      split at h
      · rename_i hb
        cases h
        simp at hb
        refine ⟨0, ?_, by simp, ⟨by simpa using he.1, fun j k' v' b' hj => ?_⟩, fun n hn hxn j k' v' b' hj => ?_⟩
        · simp [List.findIdx?_cons, h3, hb]
        · cases j with
          | zero => simp at hj; obtain ⟨rfl, rfl, rfl⟩ := hj; exact ⟨{ e with val := ux }, by simp, h1, hx, h3⟩
          | succ j => obtain ⟨e', q⟩ := he.2 (j + 1) k' v' b' (by simpa using hj); exact ⟨e', by simpa using q⟩
        · cases j with
          | zero => simp at hj; obtain ⟨rfl, rfl, rfl⟩ := hj; exact ⟨(hn 0 _ _ _ rfl).1, hxn⟩
          | succ j => exact hn (j + 1) _ _ _ (by simpa using hj)
      · rename_i hb
        split at h
        · rename_i r hr
          cases h
          obtain ⟨i, q1, q2, q3, q4⟩ := ih r ces he.tail hr
          refine ⟨i + 1, ?_, by simp; omega, ⟨?_, fun j k' v' b' hj => ?_⟩, fun n hn hxn j k' v' b' hj => ?_⟩
          · rw [List.findIdx?_cons, if_neg, q1]; · rfl
            rw [h3]; simp at hb; simp; omega
          · have := q3.1; simp at this ⊢; omega
          · cases j with
            | zero => simp at hj; obtain ⟨rfl, rfl, rfl⟩ := hj; exact ⟨e, by simp, h1, h2, h3⟩
            | succ j => obtain ⟨e', m⟩ := q3.2 j k' v' b' (by simpa using hj); exact ⟨e', by simpa using m⟩
          · cases j with
            | zero => simp at hj; obtain ⟨rfl, rfl, rfl⟩ := hj; exact hn 0 _ _ _ rfl
            | succ j => exact q4 n (fun j k v b hh => hn (j + 1) k v b (by simpa using hh)) hxn j _ _ _ (by simpa using hj)
        · cases h

theorem entryStore_ok {t : TypeId} {m s x : AV} {um us ux : Value} {d : D} {S0 nid} (h : HR ρ H w) (hm : AVR ρ H w m um) (hs : AVR ρ H w s us) (hx : AVR ρ H w x ux) (hd : entryStoreA m s x H = some d) :
    ∃ w', (Instr.entryStore t um us ux).run P w = .ok () w' ∧ Fin ρ H w w' S0 nid Go.undef d := by
  unfold entryStoreA at hd
  split at hd
  · rename_i id kk born
    split at hd
    · rename_i wc es cl hg
      obtain ⟨ces, m1, m2⟩ := h.es hg
      cases hm with
      | mref _ r h1 h2 =>
        have := h2 _ _ _ hg
        subst this
        cases hs
        split at hd
        · rename_i es' hes
          cases hd
          obtain ⟨i, q1, q2, q3, q4⟩ := setBorn_ok hx es es' ces.toList m2 hes
          have hi : i < ces.size := by simpa using q2
          refine ⟨_, ?_, setMap_fin (ces' := ces.modify i fun e => { e with val := ux }) (cl' := cl) h hg (by simpa using q3) (fun hrf n hn => q4 n hn (anyRef_rb hrf (by simp) hx.rb)) .undef⟩
          have q1' : ces.findIdx? (fun e => (e.born : Int) == Int.ofNat born) = some i := by
            rw [← q1]; cases ces; simp
          simp only [Instr.entryStore, Sem.run_bind, run_getMap m1, Result.andThen_ok, asInt, asIntOf, Sem.run_pure, q1', run_setMap _ m1]
        · cases hd
    · cases hd
  · cases hd

end Go.Proofs.YtobejienmopklaaGreatDoor.Ev
