/- LowerRuns: what operations depend on; two steps in either order. Conditions: none beyond the card's own. -/
import Derived.Test.YtobejienmopklaaGreatDoorE6
import Derived.Orders
/- What an operation looks at: it answers alike wherever that is the same; what it changes has another write counter. -/
namespace Go.Proofs.YtobejienmopklaaGreatDoor.Ev
set_option linter.unusedSimpArgs false
variable {P : Program}

/-- `d` is what the operation gives in H; wherever the same stands at what was touched, it gives the same -/
def Loc (H : Heap) (f : Heap → Option D) : D → Prop
  | ⟨v, rd, wr, new⟩ => (∀ H', (∀ id, id ∈ rd ∨ id ∈ wr.map (·.1) → H'.get id = H.get id) → f H' = some ⟨v, rd, wr, new⟩) ∧ ∀ x ∈ wr, ∃ o, H.get x.1 = some o ∧ wle o x.2.1

theorem load_loc {t : TypeId} {a : AV} {H : Heap} {d : D} (h : loadA P t a H = some d) : Loc H (loadA P t a) d := by
  cases a <;> simp only [loadA] at h <;> try (cases h; done)
  · rename_i id off
    split at h
    · rename_i e ex wc fz cs hg
      obtain ⟨v, hv, h⟩ := bnd_eq.1 h
      cases h
      refine ⟨fun H' hH => ?_, by simp⟩
      simp only [loadA, hH id (by simp), hg, valO, hv, bnd_some]
    · cases h
  · obtain ⟨v, hv, h⟩ := bnd_eq.1 h
    cases h
    exact ⟨fun H' _ => by simp only [loadA, valO, hv, bnd_some], by simp⟩

theorem writeRow_loc {id off : Nat} {vs : List AV} {rd : List Nat} {v : AV} {H : Heap} {d : D} (h : writeRow id off vs rd H v = some d) : Loc H (fun H => writeRow id off vs rd H v) d := by
  have h0 := h
  unfold writeRow at h
  split at h
  · rename_i e ex wc fz cs hg
    obtain ⟨hc, h⟩ := cnd_some.1 h
    obtain ⟨cs', hp, h⟩ := bnd_eq.1 h
    cases h
    refine ⟨fun H' hH => ?_, fun x hx => ?_⟩
    · show writeRow id off vs rd H' v = _
      rw [← h0]
      unfold writeRow
      rw [hH id (by simp)]
    · simp at hx
      subst hx
      exact ⟨_, hg, by simp [wle]⟩
  · cases h

theorem store_loc {n : Option Nat} {a v : AV} {H : Heap} {d : D} (h : storeA n a v H = some d) : Loc H (storeA n a v) d := by
  cases a <;> simp only [storeA] at h <;> try (cases h; done)
  split at h
  · rename_i m
    obtain ⟨hc, h⟩ := cnd_some.1 h
    obtain ⟨v, rd, wr, new⟩ := d
    obtain ⟨h1, h2⟩ := writeRow_loc h
    exact ⟨fun H' hH => by simp only [storeA]; rw [hc, cnd_true]; exact h1 H' hH, h2⟩
  · cases h

theorem update_loc {t : TypeId} {m k x : AV} {H : Heap} {d : D} (h : updateA P t m k x H = some d) : Loc H (updateA P t m k x) d := by
  have h0 := h
  unfold updateA at h
  split at h
  · rename_i kt et id hmt
    obtain ⟨hka, h⟩ := cnd_some.1 h
    split at h
    · rename_i wc es cl hg
      have same : ∀ H' : Heap, H'.get id = H.get id → updateA P t (.mref id) k x H' = updateA P t (.mref id) k x H := fun H' e => by unfold updateA; simp only [hmt, e]
      split at h
      · obtain ⟨hs, h⟩ := cnd_some.1 h
        cases h
        refine ⟨fun H' hH => by rw [same H' (hH id (by simp))]; exact h0, fun y hy => ?_⟩
        simp at hy; subst hy
        exact ⟨_, hg, by simp [wle]⟩
      · cases h
        refine ⟨fun H' hH => by rw [same H' (hH id (by simp))]; exact h0, fun y hy => ?_⟩
        simp at hy; subst hy
        exact ⟨_, hg, by simp [wle]⟩
      · cases h
    · cases h
  · cases h

theorem entry_loc {t : TypeId} {m k : AV} {H : Heap} {d : D} (h : entryA P t m k H = some d) : Loc H (entryA P t m k) d := by
  have h0 := h
  unfold entryA at h
  split at h
  · rename_i kt et id hmt
    obtain ⟨hka, h⟩ := cnd_some.1 h
    obtain ⟨hkk, h⟩ := cnd_some.1 h
    split at h
    · rename_i wc es cl hg
      have same : ∀ H' : Heap, H'.get id = H.get id → entryA P t (.mref id) k H' = entryA P t (.mref id) k H := fun H' e => by unfold entryA; simp only [hmt, e]
      split at h
      · obtain ⟨hs, h⟩ := cnd_some.1 h
        cases h
        refine ⟨fun H' hH => by rw [same H' (hH id (by simp))]; exact h0, fun y hy => ?_⟩
        simp at hy; subst hy
        exact ⟨_, hg, by simp [wle]⟩
      · split at h
        · cases h
          refine ⟨fun H' hH => by rw [same H' (hH id (by simp))]; exact h0, fun y hy => ?_⟩
          simp at hy; subst hy
          exact ⟨_, hg, by simp [wle]⟩
        · cases h
      · cases h
    · cases h
  · cases h

theorem entryStore_loc {m s x : AV} {H : Heap} {d : D} (h : entryStoreA m s x H = some d) : Loc H (entryStoreA m s x) d := by
  have h0 := h
  unfold entryStoreA at h
  split at h
  · rename_i id kk born
    split at h
    · rename_i wc es cl hg
      split at h
      · cases h
        refine ⟨fun H' hH => ?_, fun y hy => ?_⟩
        · rw [← h0]; unfold entryStoreA; simp only [hH id (by simp)]
        · simp at hy; subst hy
          exact ⟨_, hg, by simp [wle]⟩
      · cases h
    · cases h
  · cases h

theorem lookup_loc {t : TypeId} {c : Bool} {m k : AV} {H : Heap} {d : D} (h : lookupA P t c m k H = some d) : Loc H (lookupA P t c m k) d := by
  have hd : d.rec (motive := fun _ => Prop) fun v rd wr new => rd = idOf m ∧ wr = [] := by
    unfold lookupA at h
    split at h
    case h_2 => cases h
    obtain ⟨_, h⟩ := cnd_some.1 h
    split at h
    · cases h
    · split at h
      · cases h; exact ⟨rfl, rfl⟩
      · split at h
        · cases h; exact ⟨rfl, rfl⟩
        · cases h
      · cases h
  obtain ⟨v, rd, wr, new⟩ := d
  obtain ⟨rfl, rfl⟩ := hd
  refine ⟨fun H' hH => ?_, by simp⟩
  rw [← h]
  unfold lookupA
  have : mapEs m H' = mapEs m H := by
    unfold mapEs
    split
    · rfl
    · rename_i id; rw [hH id (by simp [idOf])]
    · rfl
  rw [this]

theorem len_loc {t : TypeId} {x : AV} {H : Heap} {d : D} (h : lenA P t x H = some d) : Loc H (lenA P t x) d := by
  have h0 := h
  unfold lenA at h
  split at h
  · rename_i s hu
    obtain ⟨v, hv, h⟩ := bnd_eq.1 h
    cases h
    exact ⟨fun H' _ => by rw [← h0]; unfold lenA; simp only [hu], by simp⟩
  · rename_i e id off n sz clip hu
    cases h
    exact ⟨fun H' _ => by rw [← h0]; unfold lenA; simp only [hu], by simp⟩
  · rename_i e clip sz es hu
    obtain ⟨v, hv, h⟩ := bnd_eq.1 h
    cases h
    exact ⟨fun H' _ => by rw [← h0]; unfold lenA; simp only [hu], by simp⟩
  · rename_i hu
    cases h
    exact ⟨fun H' _ => by rw [← h0]; unfold lenA; simp only [hu], by simp⟩
  · rename_i id hu
    split at h
    case h_2 => cases h
    rename_i wc es cl hg
    obtain ⟨v, hv, h⟩ := bnd_eq.1 h
    cases h
    exact ⟨fun H' hH => by rw [← h0]; unfold lenA; simp only [hu, hH id (by simp)], by simp⟩
  · rename_i n e hu
    cases h
    exact ⟨fun H' _ => by rw [← h0]; unfold lenA; simp only [hu], by simp⟩
  · cases h

theorem src_loc {size : Nat} {b : AV} {H H' : Heap} (hH : ∀ id, id ∈ idOf b → H'.get id = H.get id) : srcOf size H' b = srcOf size H b := by
  unfold srcOf
  split
  · rfl
  · rename_i id off n sz clip; rw [hH id (by simp [idOf])]
  · rfl
  · rfl

end Go.Proofs.YtobejienmopklaaGreatDoor.Ev

/- Locality of append, slices, conversions. -/
namespace Go.Proofs.YtobejienmopklaaGreatDoor.Ev
set_option linter.unusedSimpArgs false
variable {P : Program}

theorem convert_same {src dst : TypeId} {x : AV} {nid : Nat} {H H' : Heap} (hH : ∀ id, id ∈ idOf x → H'.get id = H.get id) : convertA P src dst x H' nid = convertA P src dst x H nid := by
  have e := src_loc (size := 1) hH
  cases hs : P.underlying src with
  | none => unfold convertA; simp only [hs]
  | some sd =>
    cases hd : P.underlying dst with
    | none => unfold convertA; simp only [hs, hd]
    | some dd => cases sd <;> cases dd <;> cases x <;> first | (unfold convertA; simp only [hs, hd]; done) | (unfold convertA; simp only [hs, hd, e]; done) | (rename_i id off; unfold convertA; simp only [hs, hd, hH id (by simp [idOf])])

theorem convert_loc {src dst : TypeId} {x : AV} {nid : Nat} {H : Heap} {d : D} (h : convertA P src dst x H nid = some d) : Loc H (fun H => convertA P src dst x H nid) d := by
  have h0 := h
  have key : d.rec (motive := fun _ => Prop) fun v rd wr new => wr = [] ∧ ((∀ id, id ∈ idOf x → id ∈ rd) ∨ ∀ H' : Heap, convertA P src dst x H' nid = convertA P src dst x H nid) := by
    unfold convertA at h
    split at h
    · rename_i hs hd
      rw [intA_eq] at h
      cases h
      exact ⟨rfl, .inl (by simp [idOf])⟩
    · rename_i hs hd
      cases h
      exact ⟨rfl, .inl (by simp [idOf])⟩
    · rename_i xx e hs hd hns
      split at h
      case h_2 => cases h
      obtain ⟨hsl, h⟩ := cnd_some.1 h
      split at h
      case h_2 => cases h
      obtain ⟨v, hv, h⟩ := bnd_eq.1 h
      cases h
      exact ⟨rfl, .inl (fun _ h => h)⟩
    · cases h
      exact ⟨rfl, .inl (by simp [idOf])⟩
    · split at h
      case h_2 => cases h
      obtain ⟨_, h⟩ := cnd_some.1 h
      cases h
      exact ⟨rfl, .inl (fun _ h => h)⟩
    · split at h
      case h_2 => cases h
      obtain ⟨_, h⟩ := cnd_some.1 h
      cases h
      exact ⟨rfl, .inl (fun _ h => h)⟩
    · cases h
  obtain ⟨v, rd, wr, new⟩ := d
  obtain ⟨rfl, hk⟩ := key
  refine ⟨fun H' hH => ?_, by simp⟩
  show convertA P src dst x H' nid = _
  rcases hk with hk | hk
  · rw [convert_same fun id hi => hH id (.inl (hk id hi))]; exact h0
  · rw [hk]; exact h0

end Go.Proofs.YtobejienmopklaaGreatDoor.Ev

namespace Go.Proofs.YtobejienmopklaaGreatDoor.Ev
set_option linter.unusedSimpArgs false
variable {P : Program}

theorem slice_loc {t : TypeId} {x : AV} {lo hi mx : Option Nat} {H : Heap} {d : D} (h : sliceA P t x lo hi mx H = some d) : Loc H (sliceA P t x lo hi mx) d := by
  have h0 := h
  cases x <;> simp only [sliceA] at h <;> try (cases h; done)
  · split at h
    case h_2 => cases h
    split at h
    case h_2 => cases h
    split at h
    case h_2 => cases h
    cases h
    exact ⟨fun H' _ => h0, by simp⟩
  · rename_i id off
    split at h
    case h_2 => cases h
    rename_i n e hu
    unfold sliceArr at h
    obtain ⟨z, hz, h⟩ := bnd_eq.1 h
    split at h
    case h_2 => cases h
    rename_i hg
    obtain ⟨_, h⟩ := cnd_some.1 h
    split at h
    case h_2 => cases h
    rw [Nat.now_eq, Nat.now_eq] at h
    cases h
    refine ⟨fun H' hH => ?_, by simp⟩
    rw [← h0]
    simp only [sliceA, sliceArr, hH id (by simp)]
  · obtain ⟨e, _, h⟩ := bnd_eq.1 h
    obtain ⟨z, _, h⟩ := bnd_eq.1 h
    obtain ⟨_, h⟩ := cnd_some.1 h
    split at h
    case h_2 => cases h
    rw [Nat.now_eq, Nat.now_eq] at h
    cases h
    exact ⟨fun H' _ => h0, by simp⟩
  · obtain ⟨e, _, h⟩ := bnd_eq.1 h
    obtain ⟨z, _, h⟩ := bnd_eq.1 h
    obtain ⟨_, h⟩ := cnd_some.1 h
    split at h
    case h_2 => cases h
    split at h
    case h_2 => cases h
    cases h
    exact ⟨fun H' _ => h0, by simp⟩

theorem appendTo_loc {e : TypeId} {size len n nid : Nat} {old new : List AV} {a : AV} {rd : List Nat} {H : Heap} {d : D} (hrd : ∀ id, id ∈ idOf a → id ∈ rd) (h : appendTo e size len n old new a rd H nid = some d) :
    d.rec (motive := fun _ => Prop) fun _ rd' wr _ => rd' = rd ∧ (∀ H' : Heap, (∀ id, id ∈ rd → H'.get id = H.get id) → appendTo e size len n old new a rd H' nid = some d) ∧ ∀ x ∈ wr, ∃ o, H.get x.1 = some o ∧ wle o x.2.1 := by
  have h0 := h
  cases a <;> simp only [appendTo] at h <;> try (cases h; done)
  · rename_i id off ln sz clip
    have same : ∀ H' : Heap, (∀ id, id ∈ rd → H'.get id = H.get id) → appendTo e size len n old new (.slc id off ln sz clip) rd H' nid = some d := fun H' hH => by
      rw [← h0]; simp only [appendTo, hH id (hrd id (by simp [idOf]))]
    split at h
    case h_2 => cases h
    rename_i hg
    obtain ⟨_, h⟩ := cnd_some.1 h
    rw [cnd_eq] at h
    split at h
    · rw [Nat.now_eq] at h
      cases h
      exact ⟨rfl, same, by simp⟩
    · obtain ⟨_, h⟩ := cnd_some.1 h
      rw [Nat.now_eq] at h
      cases h
      exact ⟨rfl, same, fun x hx => by simp at hx; subst hx; exact ⟨_, hg, trivial⟩⟩
  · rename_i clip sz es
    cases clip with
    | false => cases h
    | true =>
      rw [Nat.now_eq] at h
      cases h
      exact ⟨rfl, fun H' _ => h0, by simp⟩

end Go.Proofs.YtobejienmopklaaGreatDoor.Ev

namespace Go.Proofs.YtobejienmopklaaGreatDoor.Ev
set_option linter.unusedSimpArgs false
variable {P : Program}

theorem append_loc {t : TypeId} {a b : AV} {nid : Nat} {H : Heap} {d : D} (h : appendA P t a b H nid = some d) : Loc H (fun H => appendA P t a b H nid) d := by
  have h0 := h
  unfold appendA at h
  split at h
  · cases h
  rename_i e he
  split at h
  · cases h
  rename_i i hi
  obtain ⟨hsl, h⟩ := cnd_some.1 h
  split at h
  · cases h
  rename_i n new hnew
  have hb : ∀ H' : Heap, (∀ id, id ∈ idOf b → H'.get id = H.get id) → srcOf i.size H' b = some (n, new) := fun H' hH => by rw [src_loc hH]; exact hnew
  rw [cnd_eq] at h
  split at h
  · rename_i hn
    cases h
    refine ⟨fun H' hH => ?_, by simp⟩
    show appendA P t a b H' nid = _
    unfold appendA
    simp only [he, hi, hsl, cnd_true, hb H' (fun id hid => hH id (.inl hid)), hn]
    rfl
  · rename_i hn
    have hn' : Nat.beq n 0 = false := by cases hq : Nat.beq n 0 with | false => rfl | true => exact absurd hq hn
    split at h
    · cases h
    rename_i len old hold
    obtain ⟨hc, h⟩ := cnd_some.1 h
    have hl := appendTo_loc (fun id hid => by simp [hid]) h
    obtain ⟨v, rd, wr, nw⟩ := d
    obtain ⟨rfl, h1, h2⟩ := hl
    refine ⟨fun H' hH => ?_, h2⟩
    have hrd : ∀ id, id ∈ idOf a ++ idOf b → H'.get id = H.get id := fun id hid => hH id (.inl hid)
    show appendA P t a b H' nid = _
    unfold appendA
    simp only [he, hi, hsl, cnd_true, hb H' (fun id hid => hrd id (by simp [hid])), hn', cnd_false, src_loc (size := i.size) (b := a) (fun id hid => hrd id (by simp [hid])), hold, hc]
    exact h1 H' hrd

end Go.Proofs.YtobejienmopklaaGreatDoor.Ev

/- What an operation reads of the temporaries. -/
namespace Go.Proofs.YtobejienmopklaaGreatDoor.Ev
set_option linter.unusedSimpArgs false
variable {C : Cfg}

def KEq (e e' : Env) : Kind → Prop
  | .pure f => f e = f e'
  | .gen f => f e = f e'
  | .call f => f e = f e'
  | .pan f => f e = f e'

theorem parts_env {e e' : Env} : ∀ (l : List (Nat × Operand)), (∀ x ∈ l.map (·.2), evO C x e = evO C x e') → partsA C l e = partsA C l e' := by
  intro l
  induction l with
  | nil => intro _; rfl
  | cons p l ih =>
    intro h
    obtain ⟨i, x⟩ := p
    simp only [partsA]
    rw [h x (by simp), ih fun y hy => h y (by simp at hy ⊢; exact .inr hy)]
theorem args_env {e e' : Env} : ∀ (l : List Operand), (∀ x ∈ l, evO C x e = evO C x e') → argsA C l e = argsA C l e' := by
  intro l
  induction l with
  | nil => intro _; rfl
  | cons x l ih =>
    intro h
    simp only [argsA]
    rw [h x (by simp), ih fun y hy => h y (by simp [hy])]
theorem opt_env {e e' : Env} {x : Option Operand} (h : ∀ y, x = some y → evO C y e = evO C y e') : optA C x e = optA C x e' := by
  cases x with
  | none => rfl
  | some y => simp only [optA]; rw [h y rfl]

theorem kind_env {e e' : Env} {op : Op} (h : ∀ x ∈ op.operands.toList, evO C x e = evO C x e') : KEq e e' (kind C op) := by
  cases op
  case move x => exact h x (by simp [Op.operands])
  case assign x => exact h x (by simp [Op.operands])
  case pick c a b =>
    have h1 := h c (by simp [Op.operands])
    have h2 := h a (by simp [Op.operands])
    have h3 := h b (by simp [Op.operands])
    show (match evO C c e with | some (.bool t) => cnd t (evO C a e) (evO C b e) | _ => none) = (match evO C c e' with | some (.bool t) => cnd t (evO C a e') (evO C b e') | _ => none)
    rw [h1, h2, h3]
  case alloc t => rfl
  case box t x => have h1 := h x (by simp [Op.operands]); funext H n; show bnd (evO C x e) _ = bnd (evO C x e') _; rw [h1]
  case build t ps =>
    have h1 := parts_env ps.toList (fun x hx => h x (by simpa [Op.operands] using hx))
    show (bnd (zeroT C.P t) fun z => bnd (partsA C ps.toList e) fun l => bnd (buildA C.P t l z.cells) fun cs => some (AV.agg cs)) = _
    rw [h1]
  case buildSlice t n ps =>
    have h1 := parts_env ps.toList (fun x hx => h x (by simpa [Op.operands] using hx))
    funext H nid
    show (bnd (partsA C ps.toList e) fun l => buildSliceA C.P t n l nid) = _
    rw [h1]
  case load t x => have h1 := h x (by simp [Op.operands]); funext H n; show bnd (evO C x e) _ = bnd (evO C x e') _; rw [h1]
  case store t x y =>
    have h1 := h x (by simp [Op.operands]); have h2 := h y (by simp [Op.operands])
    funext H n; show (bnd (evO C x e) fun a => bnd (evO C y e) _) = (bnd (evO C x e') fun a => bnd (evO C y e') _); rw [h1, h2]
  case nilCheck x => have h1 := h x (by simp [Op.operands]); show bnd (evO C x e) _ = bnd (evO C x e') _; rw [h1]
  case binOp op t x y f =>
    have h1 := h x (by simp [Op.operands]); have h2 := h y (by simp [Op.operands])
    show (bnd (evO C x e) fun a => bnd (evO C y e) _) = (bnd (evO C x e') fun a => bnd (evO C y e') _); rw [h1, h2]
  case unOp op t x => have h1 := h x (by simp [Op.operands]); show bnd (evO C x e) _ = bnd (evO C x e') _; rw [h1]
  case convert s d x => have h1 := h x (by simp [Op.operands]); funext H n; show bnd (evO C x e) _ = bnd (evO C x e') _; rw [h1]
  case makeInterface t x => have h1 := h x (by simp [Op.operands]); show bnd (evO C x e) _ = bnd (evO C x e') _; rw [h1]
  case makeFunc fn as bs =>
    cases fn
    case func f =>
      have h1 := args_env as.toList (fun x hx => h x (by simp [Op.operands] at hx ⊢; exact .inl hx))
      have h2 := args_env bs.toList (fun x hx => h x (by simp [Op.operands] at hx ⊢; exact .inr hx))
      show (bnd (argsA C as.toList e) fun a => bnd (argsA C bs.toList e) fun b => some (AV.fn f a b)) = _
      rw [h1, h2]
    all_goals rfl
  case makeMap t r =>
    cases r with
    | none => rfl
    | some x => have h1 := h x (by simp [Op.operands]); funext H n; show bnd (evO C x e) _ = bnd (evO C x e') _; rw [h1]
  case makeSlice t x y =>
    have h1 := h x (by simp [Op.operands]); have h2 := h y (by simp [Op.operands])
    funext H n; show (bnd (evO C x e) fun a => bnd (evO C y e) _) = (bnd (evO C x e') fun a => bnd (evO C y e') _); rw [h1, h2]
  case slice t x lo hi mx =>
    have h1 := h x (by simp [Op.operands])
    have h2 := opt_env (x := lo) (fun y hy => h y (by subst hy; simp [Op.operands]))
    have h3 := opt_env (x := hi) (fun y hy => h y (by subst hy; simp [Op.operands]))
    have h4 := opt_env (x := mx) (fun y hy => h y (by subst hy; simp [Op.operands]))
    funext H n
    show (bnd (evO C x e) fun x => bnd (optA C lo e) fun lo => bnd (optA C hi e) fun hi => bnd (optA C mx e) fun mx => sliceA C.P t x lo hi mx H) = _
    rw [h1, h2, h3, h4]
  case fieldAddr s x f => have h1 := h x (by simp [Op.operands]); show bnd (evO C x e) _ = bnd (evO C x e') _; rw [h1]
  case field s x f => have h1 := h x (by simp [Op.operands]); show bnd (evO C x e) _ = bnd (evO C x e') _; rw [h1]
  case indexAddr t x y =>
    have h1 := h x (by simp [Op.operands]); have h2 := h y (by simp [Op.operands])
    show (bnd (evO C x e) fun a => bnd (evO C y e) _) = (bnd (evO C x e') fun a => bnd (evO C y e') _); rw [h1, h2]
  case index t x y =>
    have h1 := h x (by simp [Op.operands]); have h2 := h y (by simp [Op.operands])
    show (bnd (evO C x e) fun a => bnd (evO C y e) _) = (bnd (evO C x e') fun a => bnd (evO C y e') _); rw [h1, h2]
  case lookup t x y c =>
    have h1 := h x (by simp [Op.operands]); have h2 := h y (by simp [Op.operands])
    funext H n; show (bnd (evO C x e) fun a => bnd (evO C y e) _) = (bnd (evO C x e') fun a => bnd (evO C y e') _); rw [h1, h2]
  case mapUpdate t x y z =>
    have h1 := h x (by simp [Op.operands]); have h2 := h y (by simp [Op.operands]); have h3 := h z (by simp [Op.operands])
    funext H n; show (bnd (evO C x e) fun a => bnd (evO C y e) fun b => bnd (evO C z e) _) = (bnd (evO C x e') fun a => bnd (evO C y e') fun b => bnd (evO C z e') _); rw [h1, h2, h3]
  case insert t x y z =>
    have h1 := h x (by simp [Op.operands]); have h2 := h y (by simp [Op.operands]); have h3 := h z (by simp [Op.operands])
    funext H n; show (bnd (evO C x e) fun a => bnd (evO C y e) fun b => bnd (evO C z e) _) = (bnd (evO C x e') fun a => bnd (evO C y e') fun b => bnd (evO C z e') _); rw [h1, h2, h3]
  case mapEntry t x y =>
    have h1 := h x (by simp [Op.operands]); have h2 := h y (by simp [Op.operands])
    funext H n; show (bnd (evO C x e) fun a => bnd (evO C y e) _) = (bnd (evO C x e') fun a => bnd (evO C y e') _); rw [h1, h2]
  case entryStore t x y z =>
    have h1 := h x (by simp [Op.operands]); have h2 := h y (by simp [Op.operands]); have h3 := h z (by simp [Op.operands])
    funext H n; show (bnd (evO C x e) fun a => bnd (evO C y e) fun b => bnd (evO C z e) _) = (bnd (evO C x e') fun a => bnd (evO C y e') fun b => bnd (evO C z e') _); rw [h1, h2, h3]
  case extract x i => have h1 := h x (by simp [Op.operands]); show bnd (evO C x e) _ = bnd (evO C x e') _; rw [h1]
  case panic x =>
    have h1 := h x (by simp [Op.operands])
    show (match evO C x e with | some (.iface t v) => some (AV.iface t v) | _ => none) = (match evO C x e' with | some (.iface t v) => some (AV.iface t v) | _ => none)
    rw [h1]
  case call c =>
    have h1 := args_env c.args.toList (fun x hx => h x (by simp [Op.operands, Call.operands] at hx ⊢; exact .inr hx))
    simp only [kind]
    split
    · funext H n; show (bnd (argsA C c.args.toList e) fun args => _) = _; rw [h1]
    · rename_i fid hc
      cases C.prim fid with
      | none => show (bnd (argsA C c.args.toList e) fun args => _) = _; rw [h1]
      | some g => show (bnd (argsA C c.args.toList e) g) = _; rw [h1]
    · rename_i x hx hc
      have h2 := h x (by simp [Op.operands, Call.operands, hc])
      show (bnd (argsA C c.args.toList e) fun args => bnd (evO C x e) fun fv => _) = _; rw [h1, h2]
    · rfl
  all_goals rfl

/-- a slot that an operation does not look at -/
theorem evO_put {nt : Nat} {d : Option Tmp} {v : AV} {env : Env} {x : Operand} (h : ∀ t, d = some t → x ≠ .tmp t) : evO C x (putF nt d v env) = evO C x env := by
  cases x with
  | tmp t =>
    have hg : Tr.getP (bits t) (putF nt d v env) = Tr.getP (bits t) env := by
      cases d with
      | none => rfl
      | some d =>
        show Tr.getP (bits t) ((cnd (Nat.blt d nt) (Tr.setP (bits d)) (fun _ env => env)) v env) = _
        rw [cnd_eq]
        split
        · have e := Tr.get_set env d t v
          unfold Tr.set Tr.get at e
          rw [e, if_neg (fun q => h d rfl (by rw [q]))]
        · rfl
    show Option.rec (motive := fun _ => Option AV) (some .undef) some (Tr.getP (bits t) (putF nt d v env)) = Option.rec (motive := fun _ => Option AV) (some .undef) some (Tr.getP (bits t) env)
    rw [hg]
  | const c => rfl
  | global g => unfold evO; simp only; cases C.glob g <;> rfl
  | func f => rfl

theorem kind_put {nt : Nat} {ops : Array Oper} {o : Oper} {d : Option Tmp} {v : AV} {env : Env} (h : ∀ t, d = some t → t ∉ o.looksAt ops) : KEq (putF nt d v env) env (kind C o.op) :=
  kind_env fun x hx => evO_put fun t ht e => h t ht (by subst e; exact List.mem_append_left _ (List.mem_filterMap.2 ⟨_, hx, rfl⟩))

/-- is the operation wanted? -/
noncomputable def wants (ops : Array Oper) (o : Oper) (env : Env) : Option Bool := match o.guard with
  | none => some true
  | some g => guardF ops g env
theorem wants_put {nt : Nat} {ops : Array Oper} {o : Oper} {d : Option Tmp} {v : AV} {env : Env} (h : ∀ t, d = some t → t ∉ o.looksAt ops) : wants ops o (putF nt d v env) = wants ops o env := by
  unfold wants
  cases hg : o.guard with
  | none => rfl
  | some g =>
    obtain ⟨j, b⟩ := g
    simp only
    unfold guardF
    cases hj : ops[j]? with
    | none => rfl
    | some oj =>
      simp only
      cases hd : oj.dst with
      | none => rfl
      | some t =>
        simp only
        have ht : t ∈ o.looksAt ops := by simp [Oper.looksAt, hg, hj, hd]
        have hgp : Tr.getP (bits t) (putF nt d v env) = Tr.getP (bits t) env := by
          cases d with
          | none => rfl
          | some d =>
            show Tr.getP (bits t) ((cnd (Nat.blt d nt) (Tr.setP (bits d)) (fun _ env => env)) v env) = _
            rw [cnd_eq]
            split
            · have e := Tr.get_set env d t v
              unfold Tr.set Tr.get at e
              rw [e, if_neg (fun q => h d rfl (by rw [← q]; exact ht))]
            · rfl
        rw [hgp]

end Go.Proofs.YtobejienmopklaaGreatDoor.Ev

/- What an operation that looks at memory touches. -/
namespace Go.Proofs.YtobejienmopklaaGreatDoor.Ev
set_option linter.unusedSimpArgs false
variable {C : Cfg}

theorem loc_const {H : Heap} {x : Option D} {d : D} (h : x = some d) (hw : ∀ v rd wr new, d = ⟨v, rd, wr, new⟩ → wr = []) : Loc H (fun _ => x) d := by
  obtain ⟨v, rd, wr, new⟩ := d
  have := hw _ _ _ _ rfl
  subst this
  exact ⟨fun H' _ => h, by simp⟩
theorem loc_bnd {α : Type} {H : Heap} {x : Option α} {g : α → Heap → Option D} {d : D} (h : bnd x (fun a => g a H) = some d) (hl : ∀ a, g a H = some d → Loc H (g a) d) : Loc H (fun H => bnd x fun a => g a H) d := by
  obtain ⟨a, h1, h2⟩ := bnd_eq.1 h
  subst h1
  exact hl a h2
theorem made_wr {v : AV} {rd : List Nat} {o : AO} {d : D} (h : made v rd o = some d) : ∀ v rd wr new, d = ⟨v, rd, wr, new⟩ → wr = [] := by
  intro v' rd' wr' new' e
  subst e
  cases h; rfl

theorem unsafeStr_loc {P : Program} {t : TypeId} {p n : AV} {H : Heap} {d : D} (h : unsafeStrA P t p n H = some d) : Loc H (unsafeStrA P t p n) d := by
  have h0 := h
  unfold unsafeStrA at h
  split at h
  · cases h; exact ⟨fun _ _ => rfl, by simp⟩
  · rename_i id off n
    split at h
    case h_2 => cases h
    rename_i e ex wc fz cs hg
    obtain ⟨hc, h⟩ := cnd_some.1 h
    split at h
    case h_2 => cases h
    split at h
    case h_2 => cases h
    rw [Nat.now_eq] at h
    cases h
    refine ⟨fun H' hH => ?_, fun x hx => ?_⟩
    · rw [← h0]
      unfold unsafeStrA
      simp only [hH id (by simp)]
    · simp at hx; subst hx; exact ⟨_, hg, by simp [wle]⟩
  · cases h
theorem clear_loc {P : Program} {t : TypeId} {x : AV} {H : Heap} {d : D} (h : clearA P t x H = some d) : Loc H (clearA P t x) d := by
  have h0 := h
  unfold clearA at h
  split at h
  case h_2 => cases h
  rename_i id off n sz clip
  split at h
  case h_2 => cases h
  rename_i e he
  split at h
  case h_2 => cases h
  rename_i i z hi hz
  obtain ⟨hc, h⟩ := cnd_some.1 h
  rw [cnd_eq] at h
  split at h
  · rename_i hn
    cases h
    refine ⟨fun H' _ => ?_, by simp⟩
    simp only [clearA, he, hi, hz]
    rw [hc, cnd_true, cnd_eq, if_pos hn]; rfl
  · rename_i hn
    obtain ⟨v, rd, wr, new⟩ := d
    obtain ⟨h1, h2⟩ := writeRow_loc h
    refine ⟨fun H' hH => ?_, h2⟩
    simp only [clearA, he, hi, hz]
    rw [hc, cnd_true, cnd_eq, if_neg hn]
    exact h1 H' hH

theorem gen_loc {op : Op} {f : Env → Heap → Nat → Option D} {env : Env} {H : Heap} {nid : Nat} {d : D} (hk : kind C op = .gen f) (h : f env H nid = some d) : Loc H (fun H => f env H nid) d := by
  cases op
  case alloc t =>
    cases hk
    refine loc_const h ?_
    unfold allocA at h
    split at h
    · obtain ⟨_, h⟩ := cnd_some.1 h; exact made_wr h
    · cases h
  case box t x =>
    cases hk
    refine loc_bnd h fun a ha => loc_const ha ?_
    unfold boxA at ha
    obtain ⟨_, ha⟩ := cnd_some.1 ha; exact made_wr ha
  case buildSlice t n ps =>
    cases hk
    refine loc_bnd h fun a ha => loc_const ha ?_
    unfold buildSliceA at ha
    split at ha
    case h_2 => cases ha
    split at ha
    case h_2 => cases ha
    split at ha
    case h_2 => cases ha
    obtain ⟨_, ha⟩ := cnd_some.1 ha
    split at ha
    · obtain ⟨_, ha⟩ := cnd_some.1 ha; exact made_wr ha
    · cases ha
  case load t x => cases hk; exact loc_bnd h fun a ha => load_loc ha
  case store t x y => cases hk; exact loc_bnd h fun a ha => loc_bnd (g := fun b H => storeA (sizeT C.P t) a b H) ha fun b hb => store_loc hb
  case convert s t x => cases hk; exact loc_bnd h fun a ha => convert_loc ha
  case makeMap t r =>
    cases r with
    | none => cases hk; exact loc_const h (made_wr h)
    | some x =>
      cases hk
      refine loc_bnd h fun a ha => ?_
      refine loc_const ha ?_
      simp only at ha
      split at ha
      · exact made_wr ha
      · cases ha
  case makeSlice t l c =>
    cases hk
    refine loc_bnd h fun a ha => loc_bnd (g := fun b _ => makeSliceA C.P t a b nid) ha fun b hb => loc_const hb ?_
    unfold makeSliceA at hb
    split at hb
    case h_2 => cases hb
    split at hb
    case h_2 => cases hb
    split at hb
    case h_2 => cases hb
    split at hb
    case h_2 => cases hb
    split at hb
    case h_2 => cases hb
    obtain ⟨_, hb⟩ := cnd_some.1 hb; exact made_wr hb
  case slice t x lo hi mx =>
    cases hk
    exact loc_bnd h fun a ha => loc_bnd (g := fun lo H => bnd (optA C hi env) fun hi => bnd (optA C mx env) fun mx => sliceA C.P t a lo hi mx H) ha fun b hb =>
      loc_bnd (g := fun hi H => bnd (optA C mx env) fun mx => sliceA C.P t a b hi mx H) hb fun c hc => loc_bnd (g := fun mx H => sliceA C.P t a b c mx H) hc fun e he => slice_loc he
  case lookup t m k c => cases hk; exact loc_bnd h fun a ha => loc_bnd (g := fun b H => lookupA C.P t c a b H) ha fun b hb => lookup_loc hb
  case mapUpdate t m k x =>
    cases hk
    exact loc_bnd h fun a ha => loc_bnd (g := fun b H => bnd (evO C x env) fun c => updateA C.P t a b c H) ha fun b hb => loc_bnd (g := fun c H => updateA C.P t a b c H) hb fun c hc => update_loc hc
  case insert t m k x =>
    cases hk
    exact loc_bnd h fun a ha => loc_bnd (g := fun b H => bnd (evO C x env) fun c => updateA C.P t a b c H) ha fun b hb => loc_bnd (g := fun c H => updateA C.P t a b c H) hb fun c hc => update_loc hc
  case mapEntry t m k => cases hk; exact loc_bnd h fun a ha => loc_bnd (g := fun b H => entryA C.P t a b H) ha fun b hb => entry_loc hb
  case entryStore t m k x =>
    cases hk
    exact loc_bnd h fun a ha => loc_bnd (g := fun b H => bnd (evO C x env) fun c => entryStoreA a b c H) ha fun b hb => loc_bnd (g := fun c H => entryStoreA a b c H) hb fun c hc => entryStore_loc hc
  case call c =>
    simp only [kind] at hk
    split at hk
    · rename_i b hb
      cases hk
      refine loc_bnd h fun as ha => ?_
      cases b <;> simp only [builtinA] at ha ⊢ <;> try (cases ha; done)
      case append =>
        cases hs : isSrc C.P c.argTypes.toList with
        | false =>
          rw [hs] at ha
          simp only [cnd_false] at ha ⊢
          cases hi : isInt C.P c.argTypes.toList with
          | false => rw [hi] at ha; cases ha
          | true =>
            rw [hi] at ha
            simp only [cnd_true] at ha ⊢
            cases hl : c.argTypes.toList with
            | nil => rw [hl] at ha; cases ha
            | cons t ts =>
              rw [hl] at ha
              simp only at ha ⊢
              split at ha
              · refine loc_const ha ?_
                unfold appendZ at ha
                split at ha
                case h_2 => cases ha
                split at ha
                case h_2 => cases ha
                split at ha
                case h_2 => cases ha
                split at ha
                case h_2 => cases ha
                obtain ⟨_, ha⟩ := cnd_some.1 ha
                rw [Nat.now_eq] at ha
                exact made_wr ha
              · cases ha
        | true =>
          rw [hs] at ha
          simp only [cnd_true] at ha ⊢
          cases hl : c.argTypes.toList with
          | nil => rw [hl] at ha; cases ha
          | cons t ts =>
            rw [hl] at ha
            simp only at ha ⊢
            split at ha
            · exact append_loc ha
            · cases ha
      case len =>
        cases hl : c.argTypes.toList with
        | nil => rw [hl] at ha; cases ha
        | cons t ts =>
          rw [hl] at ha
          simp only at ha ⊢
          split at ha
          · exact len_loc ha
          · cases ha
      case cap =>
        cases hl : c.argTypes.toList with
        | nil => rw [hl] at ha; cases ha
        | cons t ts =>
          rw [hl] at ha
          simp only at ha ⊢
          split at ha
          · refine loc_const ha ?_
            unfold capA at ha
            split at ha
            · intro v rd wr new e; subst e; cases ha; rfl
            · rw [intA_eq] at ha; intro v rd wr new e; subst e; cases ha; rfl
            · cases ha
          · cases ha
      case unsafeSliceData =>
        split at ha
        · refine loc_const ha ?_
          unfold sliceDataA at ha
          split at ha
          · rw [cnd_eq] at ha
            split at ha
            · cases ha
            · intro v rd wr new e; subst e; cases ha; rfl
          · intro v rd wr new e; subst e; cases ha; rfl
          · cases ha
        · cases ha
      case unsafeString =>
        cases hl : c.argTypes.toList with
        | nil => rw [hl] at ha; cases ha
        | cons t ts =>
          rw [hl] at ha
          cases ts with
          | nil => cases ha
          | cons it ts2 =>
            cases ts2 with
            | cons _ _ => cases ha
            | nil =>
              simp only at ha ⊢
              split at ha
              · exact unsafeStr_loc ha
              · cases ha
      case clear =>
        cases hl : c.argTypes.toList with
        | nil => rw [hl] at ha; cases ha
        | cons t ts =>
          rw [hl] at ha
          simp only at ha ⊢
          split at ha
          · exact clear_loc ha
          · cases ha
      all_goals
        split at ha
        · exact loc_const ha (by intro v rd wr new e; subst e; cases ha; rfl)
        · cases ha
    · rename_i fid hc
      cases hp : C.prim fid <;> rw [hp] at hk <;> cases hk
    all_goals cases hk
  case panic x => cases hk
  case makeFunc fn as bs => cases fn <;> cases hk
  all_goals cases hk

end Go.Proofs.YtobejienmopklaaGreatDoor.Ev

/- Two operations that are not ordered may change places. -/
namespace Go.Proofs.YtobejienmopklaaGreatDoor.Ev
set_option linter.unusedSimpArgs false

theorem setP_comm {α : Type} (p : List Bool) : ∀ (q : List Bool) (x y : α) (t : Tr α), p ≠ q → Tr.setP p x (Tr.setP q y t) = Tr.setP q y (Tr.setP p x t) := by
  induction p with
  | nil =>
    intro q x y t h
    cases q with
    | nil => exact absurd rfl h
    | cons b q => cases b <;> cases t <;> rfl
  | cons a p ih =>
    intro q x y t h
    cases q with
    | nil => cases a <;> cases t <;> rfl
    | cons b q =>
      cases a <;> cases b
      · have hne : p ≠ q := fun e => h (by rw [e])
        cases t with
        | leaf => show Tr.node (Tr.setP p x (Tr.setP q y .leaf)) none .leaf = Tr.node (Tr.setP q y (Tr.setP p x .leaf)) none .leaf; rw [ih q x y _ hne]
        | node l v r => show Tr.node (Tr.setP p x (Tr.setP q y l)) v r = Tr.node (Tr.setP q y (Tr.setP p x l)) v r; rw [ih q x y _ hne]
      · cases t <;> rfl
      · cases t <;> rfl
      · have hne : p ≠ q := fun e => h (by rw [e])
        cases t with
        | leaf => show Tr.node .leaf none (Tr.setP p x (Tr.setP q y .leaf)) = Tr.node .leaf none (Tr.setP q y (Tr.setP p x .leaf)); rw [ih q x y _ hne]
        | node l v r => show Tr.node l v (Tr.setP p x (Tr.setP q y r)) = Tr.node l v (Tr.setP q y (Tr.setP p x r)); rw [ih q x y _ hne]

theorem putF_comm {nt : Nat} {d e : Option Tmp} {u v : AV} {env : Env} (h : ∀ x, d = some x → e ≠ some x) : putF nt d u (putF nt e v env) = putF nt e v (putF nt d u env) := by
  cases d with
  | none => rfl
  | some x =>
    cases e with
    | none => rfl
    | some y =>
      have hne : x ≠ y := fun q => h x rfl (by rw [q])
      show (cnd (Nat.blt x nt) (Tr.setP (bits x)) (fun _ env => env)) u ((cnd (Nat.blt y nt) (Tr.setP (bits y)) (fun _ env => env)) v env) =
        (cnd (Nat.blt y nt) (Tr.setP (bits y)) (fun _ env => env)) v ((cnd (Nat.blt x nt) (Tr.setP (bits x)) (fun _ env => env)) u env)
      cases Nat.blt x nt <;> cases Nat.blt y nt <;> first | rfl | exact setP_comm _ _ _ _ _ fun q => hne (bits_inj q)

/- ### numbers that are hidden, and put back -/
noncomputable def hideH (l : List Nat) (H : Heap) : Heap := l.foldl (fun H p => H.put p none) H
noncomputable def backH (l : List Nat) (H H' : Heap) : Heap := l.foldl (fun X p => X.put p (H.get p)) H'

theorem hide_same {l : List Nat} {H : Heap} (h : ∀ p ∈ l, H.hole p) : hideH l H = H := by
  induction l with
  | nil => rfl
  | cons p l ih =>
    show hideH l (H.put p none) = H
    rw [Heap.put_same (h p (by simp))]
    exact ih fun q hq => h q (by simp [hq])
theorem hide_put_out {l : List Nat} {H : Heap} {q : Nat} {x : Option AO} (h : q ∉ l) : hideH l (H.put q x) = (hideH l H).put q x := by
  induction l generalizing H with
  | nil => rfl
  | cons p l ih =>
    show hideH l ((H.put q x).put p none) = (hideH l (H.put p none)).put q x
    rw [Heap.put_comm H x none (fun e => h (by simp [e])), ih (fun e => h (by simp [e]))]
theorem hide_put_in {l : List Nat} {H : Heap} {q : Nat} {x : Option AO} (h : q ∈ l) : hideH l (H.put q x) = hideH l H := by
  induction l generalizing H with
  | nil => cases h
  | cons p l ih =>
    show hideH l ((H.put q x).put p none) = hideH l (H.put p none)
    by_cases e : q = p
    · subst e; rw [Heap.put_put]
    · rw [Heap.put_comm H x none e]
      exact ih (by simpa [e] using h)
@[simp] theorem hide_len (l : List Nat) (H : Heap) : (hideH l H).len = H.len := by
  induction l generalizing H with
  | nil => rfl
  | cons p l ih => show (hideH l (H.put p none)).len = _; rw [ih]; simp
theorem hide_sl (l : List Nat) (H : Heap) (j : Nat) : (hideH l H).sl j = if j ∈ l then (H.sl j).map (fun _ => none) else H.sl j := by
  induction l generalizing H with
  | nil => simp; rfl
  | cons p l ih =>
    show (hideH l (H.put p none)).sl j = _
    rw [ih, Heap.sl_put]
    by_cases h1 : j = p
    · subst h1
      simp only [if_pos rfl, List.mem_cons, true_or, if_true]
      cases H.sl j <;> simp
    · simp only [List.mem_cons, h1, false_or, if_false]
theorem hide_get (l : List Nat) (H : Heap) (j : Nat) : (hideH l H).get j = if j ∈ l then none else H.get j := by
  rw [Heap.get_sl, hide_sl]
  by_cases h : j ∈ l
  · rw [if_pos h, if_pos h]; cases H.sl j <;> rfl
  · rw [if_neg h, if_neg h, ← Heap.get_sl]
theorem back_put_out {l : List Nat} {H H' : Heap} {q : Nat} {x : Option AO} (h : q ∉ l) : backH l (H.put q x) H' = backH l H H' := by
  unfold backH
  have : ∀ p ∈ l, (H.put q x).get p = H.get p := fun p hp => by rw [Heap.get_put, if_neg (fun e => h (by rw [← e]; exact hp))]
  clear h
  induction l generalizing H' with
  | nil => rfl
  | cons p l ih =>
    simp only [List.foldl_cons]
    rw [this p (by simp)]
    exact ih fun q hq => this q (by simp [hq])
theorem back_out {l : List Nat} {H H' : Heap} {q : Nat} {x : Option AO} (h : q ∉ l) : backH l H (H'.put q x) = (backH l H H').put q x := by
  induction l generalizing H' with
  | nil => rfl
  | cons p l ih =>
    show backH l H ((H'.put q x).put p (H.get p)) = (backH l H (H'.put p (H.get p))).put q x
    rw [Heap.put_comm H' x (H.get p) (fun e => h (by simp [e])), ih (fun e => h (by simp [e]))]
theorem back_in {l : List Nat} {H H' : Heap} {q : Nat} {x : Option AO} (h : q ∈ l) : backH l H (H'.put q x) = backH l H H' := by
  induction l generalizing H' with
  | nil => cases h
  | cons p l ih =>
    show backH l H ((H'.put q x).put p (H.get p)) = backH l H (H'.put p (H.get p))
    by_cases e : q = p
    · subst e; rw [Heap.put_put]
    · rw [Heap.put_comm H' x _ e]
      exact ih (by simpa [e] using h)
/-- what was put down at a hidden number comes back -/
theorem back_put_in {l : List Nat} {H H' : Heap} {q : Nat} {x : Option AO} (h : q ∈ l) (hs : H.slot q) : backH l (H.put q x) H' = (backH l H H').put q x := by
  induction l generalizing H' with
  | nil => cases h
  | cons p l ih =>
    show backH l (H.put q x) (H'.put p ((H.put q x).get p)) = (backH l H (H'.put p (H.get p))).put q x
    by_cases e : q = p
    · subst e
      rw [Heap.get_put, if_pos rfl, if_pos hs]
      by_cases h2 : q ∈ l
      · rw [ih h2, back_in h2, back_in h2]
      · rw [back_put_out h2, back_out h2, back_out h2, Heap.put_put]
    · have hq : q ∈ l := by simpa [e] using h
      rw [ih hq, Heap.get_put, if_neg (fun e2 => e e2.symm)]
@[simp] theorem back_len (l : List Nat) (H H' : Heap) : (backH l H H').len = H'.len := by
  induction l generalizing H' with
  | nil => rfl
  | cons p l ih => show (backH l H (H'.put p (H.get p))).len = _; rw [ih]; simp
theorem back_sl (l : List Nat) (H H' : Heap) (j : Nat) : (backH l H H').sl j = if j ∈ l then (H'.sl j).map (fun _ => H.get j) else H'.sl j := by
  induction l generalizing H' with
  | nil => simp; rfl
  | cons p l ih =>
    show (backH l H (H'.put p (H.get p))).sl j = _
    rw [ih, Heap.sl_put]
    by_cases h1 : j = p
    · subst h1
      simp only [if_pos rfl, List.mem_cons, true_or, if_true]
      cases H'.sl j <;> simp
    · simp only [List.mem_cons, h1, false_or, if_false]
theorem back_get (l : List Nat) (H H' : Heap) (j : Nat) (hs : j ∈ l → H'.slot j) : (backH l H H').get j = if j ∈ l then H.get j else H'.get j := by
  rw [Heap.get_sl, back_sl]
  by_cases h : j ∈ l
  · rw [if_pos h, if_pos h]
    have := hs h
    unfold Heap.slot at this
    cases hj : H'.sl j with
    | none => rw [hj] at this; cases this
    | some x => cases H.get j <;> rfl
  · rw [if_neg h, if_neg h, ← Heap.get_sl]
theorem back_same {l : List Nat} {H H' : Heap} (h : ∀ p ∈ l, H.get p = none ∧ H'.hole p) : backH l H H' = H' := by
  induction l with
  | nil => rfl
  | cons p l ih =>
    show backH l H (H'.put p (H.get p)) = H'
    have := h p (by simp)
    rw [this.1, Heap.put_same this.2]
    exact ih fun q hq => h q (by simp [hq])

end Go.Proofs.YtobejienmopklaaGreatDoor.Ev

/- Steps of a region whose order is drawn, and how two of them change places. -/
namespace Go.Proofs.YtobejienmopklaaGreatDoor.Ev
set_option linter.unusedVariables false
set_option linter.unnecessarySimpa false
set_option linter.unusedSimpArgs false

/-- what a step did -/
inductive L where
  | quiet (v : AV)
  | gen (v : AV) (rd : List Nat) (wr : List (Nat × AO × Bool)) (new : Option AO)
  | call (fid : FuncId) (args : List AV) (v : AV) (Hb Ha : Heap) (low low' : Nat)
def L.v : L → AV
  | .quiet v => v
  | .gen v _ _ _ => v
  | .call _ _ v _ _ _ _ => v

/-- a region: where what an operation makes is put, what is hidden from a call -/
structure X where
  C : Cfg
  nt : Nat
  ops : Array Oper
  call : CallF
  pos : Nat → Nat
  hid : Nat → List Nat
structure DS where
  env : Env
  H : Heap
  low : Nat

noncomputable def putL (l : List (Nat × AO)) (H : Heap) : Heap := l.foldl (fun H p => H.put p.1 (some p.2)) H
def keysOf (wr : List (Nat × AO × Bool)) (new : Option AO) (p : Nat) : List (Nat × AO) := wr.map (fun x => (x.1, x.2.1)) ++ (match new with | some o => [(p, o)] | none => [])
theorem fill_putL (wr : List (Nat × AO × Bool)) (new : Option AO) (p : Nat) (H : Heap) : fillN new p (layH wr H) = putL (keysOf wr new p) H := by
  induction wr generalizing H with
  | nil => cases new <;> rfl
  | cons x wr ih => exact ih _
theorem putL_put {l : List (Nat × AO)} {H : Heap} {q : Nat} {x : Option AO} (h : q ∉ l.map (·.1)) : putL l (H.put q x) = (putL l H).put q x := by
  induction l generalizing H with
  | nil => rfl
  | cons p l ih =>
    show putL l ((H.put q x).put p.1 (some p.2)) = (putL l (H.put p.1 (some p.2))).put q x
    rw [Heap.put_comm H x _ (fun e => h (by simp [e])), ih (fun e => h (by simp at e ⊢; exact .inr e))]
theorem putL_comm {a b : List (Nat × AO)} {H : Heap} (h : ∀ q ∈ b.map (·.1), q ∉ a.map (·.1)) : putL a (putL b H) = putL b (putL a H) := by
  induction b generalizing H with
  | nil => rfl
  | cons p b ih =>
    show putL a (putL b (H.put p.1 (some p.2))) = putL b ((putL a H).put p.1 (some p.2))
    rw [ih (fun q hq => h q (by simp at hq ⊢; exact .inr hq)), putL_put (h p.1 (by simp))]
theorem putL_get {l : List (Nat × AO)} {H : Heap} {q : Nat} (h : q ∉ l.map (·.1)) : (putL l H).get q = H.get q := by
  induction l generalizing H with
  | nil => rfl
  | cons p l ih =>
    show (putL l (H.put p.1 (some p.2))).get q = _
    rw [ih (fun e => h (by simp at e ⊢; exact .inr e)), Heap.get_put, if_neg (fun e => h (by simp [e]))]
theorem putL_sl {l : List (Nat × AO)} {H : Heap} {q : Nat} (h : q ∉ l.map (·.1)) : (putL l H).sl q = H.sl q := by
  induction l generalizing H with
  | nil => rfl
  | cons p l ih =>
    show (putL l (H.put p.1 (some p.2))).sl q = _
    rw [ih (fun e => h (by simp at e ⊢; exact .inr e)), Heap.sl_put, if_neg (fun e => h (by simp [e]))]
theorem slot_put {H : Heap} {p q : Nat} {x : Option AO} : (H.put p x).slot q ↔ H.slot q := by
  unfold Heap.slot
  rw [Heap.sl_put]
  split
  · rename_i e; subst e; cases H.sl q <;> simp
  · exact Iff.rfl
theorem slot_putL {l : List (Nat × AO)} {H : Heap} {q : Nat} : (putL l H).slot q ↔ H.slot q := by
  induction l generalizing H with
  | nil => exact Iff.rfl
  | cons p l ih => exact (ih (H := H.put p.1 (some p.2))).trans slot_put

theorem lowOf_min (b : Bool) (i l : Nat) : lowOf b i l = cnd b (min i l) l := by
  unfold lowOf
  cases b
  · rfl
  · rw [cnd_true, cnd_true, blt_cnd]; split <;> omega
theorem lowOf_comm (a b : Bool) (i j l : Nat) : lowOf a i (lowOf b j l) = lowOf b j (lowOf a i l) := by
  simp only [lowOf_min]
  cases a <;> cases b <;> simp only [cnd_true, cnd_false]
  omega
theorem layL_lowOf (wr : List (Nat × AO × Bool)) (b : Bool) (j l : Nat) : layL wr (lowOf b j l) = lowOf b j (layL wr l) := by
  induction wr generalizing l with
  | nil => rfl
  | cons x wr ih =>
    show layL wr (lowOf x.2.2 x.1 (lowOf b j l)) = lowOf b j (layL wr (lowOf x.2.2 x.1 l))
    rw [lowOf_comm, ih]
theorem layL_comm (a b : List (Nat × AO × Bool)) (l : Nat) : layL a (layL b l) = layL b (layL a l) := by
  induction b generalizing l with
  | nil => rfl
  | cons x b ih =>
    show layL a (layL b (lowOf x.2.2 x.1 l)) = layL b (lowOf x.2.2 x.1 (layL a l))
    rw [ih, layL_lowOf]

noncomputable def nxtH (x : X) (i : Nat) : L → Heap → Heap
  | .quiet _, H => H
  | .gen _ _ wr new, H => fillN new (x.pos i) (layH wr H)
  | .call _ _ _ _ Ha _ _, H => backH (x.hid i) H Ha
noncomputable def nxtL : L → Nat → Nat
  | .quiet _, l => l
  | .gen _ _ wr _, l => layL wr l
  | .call _ _ _ _ _ _ l', _ => l'
noncomputable def nxt (x : X) (i : Nat) (o : Oper) (a : L) (s : DS) : DS := ⟨putF x.nt o.dst a.v s.env, nxtH x i a s.H, nxtL a s.low⟩

/-- may operation i do this here? -/
def En (x : X) (i : Nat) (o : Oper) (s : DS) : L → Prop
  | .quiet v => (wants x.ops o s.env = some false ∧ v = .undef) ∨ (wants x.ops o s.env = some true ∧ ∃ f, kind x.C o.op = .pure f ∧ f s.env = some v)
  | .gen v rd wr new => wants x.ops o s.env = some true ∧ (new.isSome = true → isMk o.op = true) ∧ ∃ f, kind x.C o.op = .gen f ∧ f s.env s.H (x.pos i) = some ⟨v, rd, wr, new⟩
  | .call fid args v Hb Ha l l' => wants x.ops o s.env = some true ∧ Hb = hideH (x.hid i) s.H ∧ l = s.low ∧ (∃ f, kind x.C o.op = .call f ∧ f s.env = some (fid, args)) ∧ x.call fid args Hb l = some (.mk v Ha l')

theorem En.env {x : X} {i : Nat} {o : Oper} {s : DS} {a : L} {env : Env} (hk : KEq env s.env (kind x.C o.op)) (hw : wants x.ops o env = wants x.ops o s.env) (h : En x i o s a) : En x i o ⟨env, s.H, s.low⟩ a := by
  cases a with
  | quiet v =>
    rcases h with ⟨h1, h2⟩ | ⟨h1, f, h2, h3⟩
    · exact .inl ⟨hw.trans h1, h2⟩
    · refine .inr ⟨hw.trans h1, f, h2, ?_⟩
      rw [h2] at hk
      exact (show f env = f s.env from hk).trans h3
  | gen v rd wr new =>
    obtain ⟨h1, h4, f, h2, h3⟩ := h
    refine ⟨hw.trans h1, h4, f, h2, ?_⟩
    rw [h2] at hk
    show f env s.H (x.pos i) = _
    rw [show f env = f s.env from hk]; exact h3
  | call fid args v Hb Ha l l' =>
    obtain ⟨h1, h2, h3, ⟨f, h4, h5⟩, h6⟩ := h
    refine ⟨hw.trans h1, h2, h3, ⟨f, h4, ?_⟩, h6⟩
    rw [h4] at hk
    exact (show f env = f s.env from hk).trans h5
theorem KEq.symm {e e' : Env} {k : Kind} (h : KEq e e' k) : KEq e' e k := by cases k <;> exact Eq.symm h

theorem kEq_tab {a b : IntKind} (h : kEq a b = true) : a = b := by
  cases a <;> cases b <;> first | rfl | (exact absurd h (by decide))
theorem eqI_tab {a b : Int} (h : eqI a b = true) : a = b := by rw [eqI_eq] at h; simpa using h
theorem eqL_tab {a b : List Nat} (h : eqL a b = true) : a = b := by rw [eqL_eq] at h; simpa using h
theorem eqV_all : ∀ n, (∀ a b, eqV n a b = true → a = b) ∧ (∀ a b, eqVs n a b = true → a = b) ∧ (∀ a b, eqVss n a b = true → a = b) := by
  intro n
  induction n with
  | zero => exact ⟨fun a b h => by simp [eqV] at h, fun a b h => by simp [eqVs] at h, fun a b h => by simp [eqVss] at h⟩
  | succ n ih =>
    obtain ⟨i1, i2, i3⟩ := ih
    refine ⟨fun a b h => ?_, fun a b h => ?_, fun a b h => ?_⟩
    · cases a <;> cases b <;> simp only [eqV, Bool.and_eq_true, beq_iff_eq, Nat.beq_eq, reduceCtorEq] at h <;> try (first | rfl | (cases h; done))
      all_goals first
        | (obtain ⟨h1, h2⟩ := h; rw [kEq_tab h1, eqI_tab h2])
        | (rw [h])
        | (rw [eqL_tab h])
        | (rw [i2 _ _ h])
        | (obtain ⟨⟨h1, h2⟩, h3⟩ := h; rw [h1, Nat.eq_of_beq_eq_true h2, i3 _ _ h3])
        | (obtain ⟨⟨h1, h2⟩, h3⟩ := h; rw [h1, h2, i3 _ _ h3])
        | (obtain ⟨⟨h1, h2⟩, h3⟩ := h; rw [Nat.eq_of_beq_eq_true h1, i2 _ _ h2, i2 _ _ h3])
        | (obtain ⟨⟨h1, h2⟩, h3⟩ := h; rw [h1, i2 _ _ h2, i2 _ _ h3])
        | (obtain ⟨h1, h2⟩ := h; rw [Nat.eq_of_beq_eq_true h1, i1 _ _ h2])
        | (obtain ⟨h1, h2⟩ := h; rw [h1, i1 _ _ h2])
    · cases a <;> cases b <;> simp only [eqVs, Bool.and_eq_true, reduceCtorEq] at h
      · rfl
      · rw [i1 _ _ h.1, i2 _ _ h.2]
    · cases a <;> cases b <;> simp only [eqVss, Bool.and_eq_true, reduceCtorEq] at h
      · rfl
      · rw [i2 _ _ h.1, i3 _ _ h.2]

theorem dif_self (v : AV) : dif v v = false := by
  unfold dif
  have h1 : Nat.beq (tag v) (tag v) = true := Nat.beq_refl _
  rw [h1]
  cases v <;> simp [cnd, eqI_eq]
theorem sameR_eq {a b : AV} (h : sameR a b = true) : a = b := by
  unfold sameR at h
  split at h
  · simp only [Bool.and_eq_true, Nat.beq_eq] at h; rw [h.1, h.2]
  · simp only [Bool.and_eq_true, Nat.beq_eq, beq_iff_eq] at h; obtain ⟨⟨⟨⟨h1, h2⟩, h3⟩, h4⟩, h5⟩ := h; rw [h1, h2, h3, h4, h5]
  · simp only [Nat.beq_eq] at h; rw [h]
  · exact (eqV_all 1000).1 _ _ h
theorem cells2_nth {v : AV} : ∀ {cs cs' : List AV} {k : Nat}, cells2 v cs cs' = true → nth cs' k = some v → nth cs k = some v
  | [], [], k, _, h => h
  | [], _ :: _, _, h, _ => by simp [cells2] at h
  | _ :: _, [], _, h, _ => by simp [cells2] at h
  | a :: as, b :: bs, k, h, hn => by
    simp only [cells2, Bool.and_eq_true, Bool.or_eq_true] at h
    cases k with
    | zero =>
      have hb : b = v := Option.some.inj hn
      subst hb
      rcases h.1 with h1 | h1
      · rw [sameR_eq h1]; rfl
      · rw [dif_self] at h1; cases h1
    | succ k => exact cells2_nth (k := k) h.2 hn
/-- it loads one cell -/
def LD (x : X) (i : Nat) : Prop := ∃ t xo o, x.ops[i]? = some o ∧ o.op = .load t xo ∧ flatL x.C.P t = true
theorem load_back {P : Program} {t : TypeId} {a : AV} {H1 H2 : Heap} {v rd wr new} (hf : flatL P t = true) (h : loadA P t a H2 = some ⟨v, rd, wr, new⟩)
    (hq : ∀ q ∈ rd, ∃ e ex wc fz cs e' ex' wc' fz' cs', H1.get q = some (.row e ex wc fz cs) ∧ H2.get q = some (.row e' ex' wc' fz' cs') ∧ cells2 v cs cs' = true) : loadA P t a H1 = some ⟨v, rd, wr, new⟩ := by
  have hp : ∀ cs off, partA P t cs off = nth cs off := by
    intro cs off
    unfold flatL at hf
    unfold partA
    cases hd : P.underlying t with
    | none => rw [hd] at hf; cases hf
    | some d => rw [hd] at hf; cases d <;> first | rfl | cases hf
  cases a <;> simp only [loadA] at h <;> try (cases h; done)
  · rename_i id off
    split at h
    · rename_i e ex wc fz cs hg
      obtain ⟨v', hv, h⟩ := bnd_eq.1 h
      cases h
      obtain ⟨e1, ex1, wc1, fz1, cs1, e2, ex2, wc2, fz2, cs2, g1, g2, g3⟩ := hq id (by simp)
      rw [hg] at g2
      cases g2
      rw [hp] at hv
      have := cells2_nth g3 hv
      simp only [loadA, g1, valO, hp, this, bnd_some]
    · cases h
  · exact h

/-- a map is looked up, and has an entry made ready at the same key -/
def LE (x : X) (j i : Nat) : Prop := ∃ t m k oj oi, x.ops[j]? = some oj ∧ x.ops[i]? = some oi ∧ oj.op = .lookup t m k false ∧ oi.op = .mapEntry t m k

theorem findK_snoc {eq : AV → AV → Option Bool} {k z : AV} {c : Nat} (hk : eq k k = some true) : ∀ (es : List (AV × AV × Nat)) (i : Nat), findK eq k es i = some none → ∃ i', findK eq k (es ++ [(k, z, c)]) i = some (some (i', k, z, c)) := by
  intro es
  induction es with
  | nil => intro i _; exact ⟨i, by simp [findK, hk]⟩
  | cons p es ih =>
    intro i h
    obtain ⟨k', v, b⟩ := p
    simp only [findK, List.cons_append] at h ⊢
    split at h
    · cases h
    · rename_i he; exact ih _ h
    · cases h
theorem findK_set {eq : AV → AV → Option Bool} {k k' v : AV} {b : Nat} (hk : eq k k = some true) : ∀ (es : List (AV × AV × Nat)) (i0 i : Nat), findK eq k es i0 = some (some (i, k', v, b)) →
    ∃ j, i = i0 + j ∧ findK eq k (setN es j (k, v, b)) i0 = some (some (i, k, v, b)) := by
  intro es
  induction es with
  | nil => intro i0 i h; simp [findK] at h
  | cons p es ih =>
    intro i0 i h
    obtain ⟨k1, v1, b1⟩ := p
    simp only [findK] at h
    split at h
    · simp only [Option.some.injEq, Prod.mk.injEq] at h
      obtain ⟨rfl, rfl, rfl, rfl⟩ := h
      refine ⟨0, rfl, ?_⟩
      show findK eq k ((k, v1, b1) :: es) i0 = _
      simp only [findK, hk]
    · rename_i he
      obtain ⟨j, h1, h2⟩ := ih _ _ h
      refine ⟨j + 1, by omega, ?_⟩
      show findK eq k ((k1, v1, b1) :: setN es j (k, v, b)) i0 = _
      simp only [findK, he]; exact h2
    · cases h
theorem isT_eq {x : Option Bool} (h : isT x = true) : x = some true := by
  cases x with
  | none => cases h
  | some b => cases b <;> first | rfl | cases h

theorem lookup_entry {P : Program} {t : TypeId} {m k : AV} {H : Heap} {v v' : AV} {rd rd' wr wr' new new'} (h1 : lookupA P t false m k H = some ⟨v, rd, wr, new⟩) (h2 : entryA P t m k H = some ⟨v', rd', wr', new'⟩) :
    wr = [] ∧ new = none ∧ new' = none ∧ lookupA P t false m k (layH wr' H) = some ⟨v, rd, [], none⟩ := by
  unfold entryA at h2
  split at h2
  · rename_i kt et id hmt
    obtain ⟨hka, h2⟩ := cnd_some.1 h2
    obtain ⟨hkk, h2⟩ := cnd_some.1 h2
    have hkk := isT_eq hkk
    split at h2
    · rename_i wc es cl hg
      have hL : ∀ H2 wc2 es2 cl2, H2.get id = some (.map wc2 es2 cl2) → lookupA P t false (.mref id) k H2 = (match findK (eqNow P kt) k es2 0 with
          | some (some (_, _, v, _)) => val v [id]
          | some none => (match zeroT P et with | some z => val z [id] | none => none)
          | none => none) := fun H2 wc2 es2 cl2 e => by
        unfold lookupA
        simp only [hmt, hka, cnd, mapEs, e, idOf]
        rcases findK (eqNow P kt) k es2 0 with _ | _ | ⟨_, _, _, _⟩ <;> first | rfl | (cases zeroT P et <;> rfl)
      split at h2
      · rename_i i k' v0 b hr
        obtain ⟨hs, h2⟩ := cnd_some.1 h2
        cases h2
        rw [hL H _ _ _ hg, hr] at h1
        cases h1
        obtain ⟨j, e1, e2⟩ := findK_set hkk es 0 i hr
        obtain rfl : i = j := by omega
        refine ⟨rfl, rfl, rfl, ?_⟩
        rw [hL _ (Nat.succ wc) (setN es i (k, v, b)) cl (by show (H.set id _).get id = _; rw [Heap.get_set, if_pos rfl, if_pos (Heap.slot_of_get hg)])]
        rw [e2]; rfl
      · rename_i hr
        split at h2
        · rename_i z hz
          cases h2
          rw [hL H _ _ _ hg, hr] at h1
          simp only [hz] at h1
          cases h1
          obtain ⟨i', e2⟩ := findK_snoc (z := v) (c := cl) hkk es 0 hr
          refine ⟨rfl, rfl, rfl, ?_⟩
          rw [hL _ (Nat.succ wc) (es ++ [(k, v, cl)]) (Nat.succ cl) (by show (H.set id _).get id = _; rw [Heap.get_set, if_pos rfl, if_pos (Heap.slot_of_get hg)])]
          rw [e2]; rfl
        · cases h2
      · cases h2
    · cases h2
  · cases h2

/-- two steps that do not touch the same -/
def Fit (x : X) (i : Nat) : L → Nat → L → Prop
  | .quiet _, _, _ => True
  | _, _, .quiet _ => True
  | .gen _ rd wr new, j, .gen _ rd' wr' new' => LE x i j ∨ (∀ q ∈ (keysOf wr new (x.pos i)).map (·.1), q ∉ rd' ∧ q ∉ (keysOf wr' new' (x.pos j)).map (·.1)) ∧ ∀ q ∈ (keysOf wr' new' (x.pos j)).map (·.1), q ∉ rd
  | .gen _ rd wr new, j, .call _ _ _ Hb Ha _ _ => wr = [] ∧ (new.isSome = true → x.pos i ∈ x.hid j) ∧ ∀ q ∈ rd, q ∈ x.hid j ∨ Ha.get q = Hb.get q
  | .call _ _ _ Hb Ha _ _, j, .gen v rd wr new => wr = [] ∧ (new.isSome = true → x.pos j ∈ x.hid i) ∧ ((∀ q ∈ rd, q ∈ x.hid i ∨ Ha.get q = Hb.get q) ∨ (LD x j ∧ ∀ q ∈ rd, cellsB Hb Ha v q = true))
  | .call _ _ _ _ _ _ _, _, .call _ _ _ _ _ _ _ => False

/-- what is known of a step by itself -/
def LF (x : X) (i : Nat) : L → Prop
  | .quiet _ => True
  | .gen _ _ _ _ => True
  | .call _ args _ Hb Ha _ _ => (∀ id, Hb.slot id → Ha.slot id) ∧ (∀ id, Hb.hole id → Ha.hole id) ∧ (∀ id o, Hb.get id = some o → ORB Hb.has o) ∧ (∀ (j : Nat) a, args[j]? = some a → RB Hb.has a) ∧ Hb.len ≤ Ha.len ∧ (∀ id o, Hb.get id = some o → ∃ o', Ha.get id = some o' ∧ wle o o')

theorem gen_agree {C : Cfg} {op : Op} {f : Env → Heap → Nat → Option D} {env : Env} {H H' : Heap} {nid : Nat} {v rd wr new} (hk : kind C op = .gen f) (h : f env H nid = some ⟨v, rd, wr, new⟩)
    (ha : ∀ q, q ∈ rd ∨ q ∈ wr.map (·.1) → H'.get q = H.get q) : f env H' nid = some ⟨v, rd, wr, new⟩ := (gen_loc hk h).1 H' ha

theorem mem_keys_wr {wr : List (Nat × AO × Bool)} {new : Option AO} {p q : Nat} (h : q ∈ wr.map (·.1)) : q ∈ (keysOf wr new p).map (·.1) := by
  unfold keysOf
  obtain ⟨y, hy, rfl⟩ := List.mem_map.1 h
  exact List.mem_map.2 ⟨(y.1, y.2.1), List.mem_append_left _ (List.mem_map.2 ⟨y, hy, rfl⟩), rfl⟩

/-- a call and an operation that only looks at what the call leaves alone, and may make something new -/
theorem back_fill {x : X} {i p : Nat} {new : Option AO} {H Ha : Heap} (hn : new.isSome = true → p ∈ x.hid i) (hs : new.isSome = true → H.slot p) : backH (x.hid i) (fillN new p H) Ha = fillN new p (backH (x.hid i) H Ha) := by
  cases new with
  | none => rfl
  | some o => exact back_put_in (hn rfl) (hs rfl)
theorem hide_fill {x : X} {i p : Nat} {new : Option AO} {H : Heap} (hn : new.isSome = true → p ∈ x.hid i) : hideH (x.hid i) (fillN new p H) = hideH (x.hid i) H := by
  cases new with
  | none => rfl
  | some o => exact hide_put_in (hn rfl)

theorem swap {x : X} {i j : Nat} {oi oj : Oper} {s : DS} {a b : L} (h1 : ∀ d, oj.dst = some d → d ∉ oi.looksAt x.ops) (h2 : ∀ d, oi.dst = some d → d ∉ oj.looksAt x.ops) (h3 : ∀ d, oj.dst = some d → oi.dst ≠ some d)
    (hoj : x.ops[j]? = some oj) (hoi : x.ops[i]? = some oi) (hf : Fit x j b i a) (hsi : isMk oi.op = true → s.H.slot (x.pos i)) (hsj : isMk oj.op = true → s.H.slot (x.pos j)) (hlb : LF x j b) (hla : LF x i a) (hsl : ∀ q ∈ x.hid i ++ x.hid j, s.H.slot q)
    (hb : En x j oj s b) (ha : En x i oi (nxt x j oj b s) a) :
    En x i oi s a ∧ En x j oj (nxt x i oi a s) b ∧ nxt x j oj b (nxt x i oi a s) = nxt x i oi a (nxt x j oj b s) := by
  have envs : ∀ (va vb : AV), putF x.nt oj.dst vb (putF x.nt oi.dst va s.env) = putF x.nt oi.dst va (putF x.nt oj.dst vb s.env) := fun va vb => putF_comm h3
  have ei : ∀ v H l, En x i oi ⟨putF x.nt oj.dst v s.env, H, l⟩ a → En x i oi ⟨s.env, H, l⟩ a := fun v H l h => h.env (kind_put h1).symm (wants_put h1).symm
  have ej : ∀ v H l, En x j oj ⟨s.env, H, l⟩ b → En x j oj ⟨putF x.nt oi.dst v s.env, H, l⟩ b := fun v H l h => h.env (kind_put h2) (wants_put h2)
  have ha' : En x i oi ⟨s.env, nxtH x j b s.H, nxtL b s.low⟩ a := ei _ _ _ ha
  -- it is enough to look at the heap and the mark
  have key : En x i oi ⟨s.env, s.H, s.low⟩ a ∧ En x j oj ⟨s.env, nxtH x i a s.H, nxtL a s.low⟩ b ∧ nxtH x j b (nxtH x i a s.H) = nxtH x i a (nxtH x j b s.H) ∧ nxtL b (nxtL a s.low) = nxtL a (nxtL b s.low) → _ := fun ⟨k1, k2, k3, k4⟩ =>
    (⟨k1, ej _ _ _ k2, by unfold nxt; simp only [envs, k3, k4]⟩ : En x i oi s a ∧ En x j oj (nxt x i oi a s) b ∧ nxt x j oj b (nxt x i oi a s) = nxt x i oi a (nxt x j oj b s))
  refine key ?_
  clear key ei ej ha envs
  cases b with
  | quiet v =>
    refine ⟨ha', ?_, rfl, rfl⟩
    rcases hb with ⟨q1, q2⟩ | ⟨q1, f, q2, q3⟩
    · exact .inl ⟨q1, q2⟩
    · exact .inr ⟨q1, f, q2, q3⟩
  | gen v rd wr new =>
    obtain ⟨b1, b4, f, b2, b3⟩ := hb
    cases a with
    | quiet v' =>
      refine ⟨?_, ⟨b1, b4, f, b2, b3⟩, rfl, rfl⟩
      rcases ha' with ⟨q1, q2⟩ | ⟨q1, f, q2, q3⟩
      · exact .inl ⟨q1, q2⟩
      · exact .inr ⟨q1, f, q2, q3⟩
    | gen v' rd' wr' new' =>
      obtain ⟨a1, a4, g, a2, a3⟩ := ha'
      rcases hf with ⟨t, m, k, oj', oi', l1, l2, l3, l4⟩ | ⟨f1, f2⟩
      · obtain rfl := Option.some.inj (l1.symm.trans hoj)
        obtain rfl := Option.some.inj (l2.symm.trans hoi)
        have bk : kind x.C (.lookup t m k false) = .gen f := by rw [← l3]; exact b2
        have ak : kind x.C (.mapEntry t m k) = .gen g := by rw [← l4]; exact a2
        cases bk
        cases ak
        obtain ⟨mv, c1, b3⟩ := bnd_eq.1 b3
        obtain ⟨kv, c2, b3⟩ := bnd_eq.1 b3
        have hwr : wr = [] ∧ new = none := by
          unfold lookupA at b3
          split at b3
          · obtain ⟨_, b3⟩ := cnd_some.1 b3
            split at b3
            · cases b3
            · split at b3
              · cases b3; exact ⟨rfl, rfl⟩
              · split at b3
                · cases b3; exact ⟨rfl, rfl⟩
                · cases b3
              · cases b3
          · cases b3
        obtain ⟨rfl, rfl⟩ := hwr
        have hs0 : nxtH x j (.gen v rd [] none) s.H = s.H := rfl
        have a3' : entryA x.C.P t mv kv s.H = some ⟨v', rd', wr', new'⟩ := by
          obtain ⟨mv', d1, a3⟩ := bnd_eq.1 a3
          obtain ⟨kv', d2, a3⟩ := bnd_eq.1 a3
          obtain rfl := Option.some.inj (c1.symm.trans d1)
          obtain rfl := Option.some.inj (c2.symm.trans d2)
          exact a3
        obtain ⟨_, _, rfl, q4⟩ := lookup_entry b3 a3'
        refine ⟨⟨a1, a4, _, a2, a3⟩, ⟨b1, b4, _, b2, ?_⟩, rfl, rfl⟩
        exact bnd_eq.2 ⟨mv, c1, bnd_eq.2 ⟨kv, c2, q4⟩⟩
      have hH1 : nxtH x j (.gen v rd wr new) s.H = putL (keysOf wr new (x.pos j)) s.H := fill_putL _ _ _ _
      have hH2 : nxtH x i (.gen v' rd' wr' new') s.H = putL (keysOf wr' new' (x.pos i)) s.H := fill_putL _ _ _ _
      refine ⟨⟨a1, a4, g, a2, gen_agree a2 a3 fun q hq => ?_⟩, ⟨b1, b4, f, b2, gen_agree b2 b3 fun q hq => ?_⟩, ?_, layL_comm _ _ _⟩
      · show s.H.get q = (nxtH x j (.gen v rd wr new) s.H).get q
        rw [hH1]
        refine (putL_get fun hm => ?_).symm
        rcases hq with hq | hq
        · exact (f1 q hm).1 hq
        · exact (f1 q hm).2 (mem_keys_wr hq)
      · show (nxtH x i (.gen v' rd' wr' new') s.H).get q = s.H.get q
        rw [hH2]
        refine putL_get fun hm => ?_
        rcases hq with hq | hq
        · exact f2 q hm hq
        · exact (f1 q (mem_keys_wr hq)).2 hm
      · have hA : ∀ H, nxtH x j (.gen v rd wr new) H = putL (keysOf wr new (x.pos j)) H := fun H => fill_putL _ _ _ _
        have hB : ∀ H, nxtH x i (.gen v' rd' wr' new') H = putL (keysOf wr' new' (x.pos i)) H := fun H => fill_putL _ _ _ _
        rw [hA, hB, hB, hA]
        exact putL_comm fun q hq hq' => (f1 q hq').2 hq
    | call fid args v' Hb Ha l l' =>
      obtain ⟨a1, a2, a3, a4, a5⟩ := ha'
      obtain ⟨rfl, f2, f3⟩ := hf
      have hH1 : hideH (x.hid i) (nxtH x j (.gen v rd [] new) s.H) = hideH (x.hid i) s.H := hide_fill f2
      refine ⟨⟨a1, a2.trans hH1, a3, a4, a5⟩, ⟨b1, b4, f, b2, gen_agree b2 b3 fun q hq => ?_⟩, ?_, rfl⟩
      · have hq' : q ∈ rd := hq.elim id (by simp)
        show (backH (x.hid i) s.H Ha).get q = s.H.get q
        have hbl : Hb = hideH (x.hid i) s.H := a2.trans hH1
        rw [back_get _ _ _ _ (fun hm => hla.1 q (by rw [hbl]; unfold Heap.slot; rw [hide_sl, if_pos hm]; have := hsl q (by simp [hm]); unfold Heap.slot at this; cases hs : s.H.sl q with
          | none => rw [hs] at this; cases this
          | some y => rfl))]
        by_cases hm : q ∈ x.hid i
        · rw [if_pos hm]
        · rw [if_neg hm]
          rcases f3 q hq' with h | h
          · exact absurd h hm
          · rw [h, hbl, hide_get, if_neg hm]
      · exact (back_fill f2 (fun h => hsj (b4 h))).symm
  | call fid args v Hb Ha l l' =>
    obtain ⟨b1, b2, b3, b4, b5⟩ := hb
    cases a with
    | quiet v' =>
      refine ⟨?_, ⟨b1, b2, b3, b4, b5⟩, rfl, rfl⟩
      rcases ha' with ⟨q1, q2⟩ | ⟨q1, f, q2, q3⟩
      · exact .inl ⟨q1, q2⟩
      · exact .inr ⟨q1, f, q2, q3⟩
    | call => exact hf.elim
    | gen v' rd wr new =>
      obtain ⟨a1, a4, g, a2, a3⟩ := ha'
      obtain ⟨rfl, f2, f3⟩ := hf
      have bget : ∀ q, (backH (x.hid j) s.H Ha).get q = if q ∈ x.hid j then s.H.get q else Ha.get q := fun q => back_get _ _ _ _ (fun hm => hlb.1 q (by rw [b2]; unfold Heap.slot; rw [hide_sl, if_pos hm]; have := hsl q (by simp [hm]); unfold Heap.slot at this; cases hs : s.H.sl q with
          | none => rw [hs] at this; cases this
          | some y => rfl))
      refine ⟨⟨a1, a4, g, a2, ?_⟩, ⟨b1, b2.trans (hide_fill f2).symm, b3, b4, b5⟩, back_fill f2 (fun h => hsi (a4 h)), rfl⟩
      rcases f3 with f3 | ⟨⟨t, xo, o', l1, l2, l3⟩, f4⟩
      · refine gen_agree a2 a3 fun q hq => ?_
        have hq' : q ∈ rd := hq.elim id (by simp)
        show s.H.get q = (backH (x.hid j) s.H Ha).get q
        rw [bget]
        by_cases hm : q ∈ x.hid j
        · rw [if_pos hm]
        · rw [if_neg hm]
          rcases f3 q hq' with h | h
          · exact absurd h hm
          · rw [h, b2, hide_get, if_neg hm]
      · obtain rfl := Option.some.inj (l1.symm.trans hoi)
        have ak : kind x.C (.load t xo) = .gen g := by rw [← l2]; exact a2
        cases ak
        obtain ⟨av, c1, a3⟩ := bnd_eq.1 a3
        refine bnd_eq.2 ⟨av, c1, load_back l3 a3 fun q hq => ?_⟩
        have h4 := f4 q hq
        unfold cellsB at h4
        split at h4
        · rename_i e ex wc fz cs e' ex' wc' fz' cs' g1 g2
          have hm : q ∉ x.hid j := fun hm => by rw [b2, hide_get, if_pos hm] at g1; cases g1
          rw [b2, hide_get, if_neg hm] at g1
          refine ⟨e, ex, wc, fz, cs, e', ex', wc', fz', cs', g1, ?_, h4⟩
          show (backH (x.hid j) s.H Ha).get q = _
          rw [bget, if_neg hm]; exact g2
        · cases h4

end Go.Proofs.YtobejienmopklaaGreatDoor.Ev

/- Chains of steps; a step that may come first is brought to the front. -/
namespace Go.Proofs.YtobejienmopklaaGreatDoor.Ev
set_option linter.unusedSimpArgs false

def Mk (x : X) (k : Nat) : Prop := ∃ o, x.ops[k]? = some o ∧ isMk o.op = true
structure XOk (x : X) (n0 : Nat) : Prop where
  hid : ∀ i q, q ∈ x.hid i → ∃ k, Mk x k ∧ q = x.pos k
  inj : ∀ i j, Mk x i → Mk x j → x.pos i = x.pos j → i = j
  low : ∀ i, Mk x i → n0 ≤ x.pos i
def Slots (x : X) (H : Heap) : Prop := ∀ k, Mk x k → H.slot (x.pos k)

theorem slot_hide {l : List Nat} {H : Heap} {q : Nat} : (hideH l H).slot q ↔ H.slot q := by
  unfold Heap.slot
  rw [hide_sl]
  split
  · cases H.sl q <;> simp
  · exact Iff.rfl
theorem slot_back {l : List Nat} {H H' : Heap} {q : Nat} : (backH l H H').slot q ↔ H'.slot q := by
  unfold Heap.slot
  rw [back_sl]
  split
  · cases H'.sl q <;> simp
  · exact Iff.rfl

theorem nxt_slots {x : X} {i : Nat} {o : Oper} {a : L} {s : DS} (hs : Slots x s.H) (hl : LF x i a) (he : En x i o s a) : Slots x (nxt x i o a s).H := by
  intro k hk
  have h0 := hs k hk
  cases a with
  | quiet v => exact h0
  | gen v rd wr new => show (fillN new (x.pos i) (layH wr s.H)).slot _; rw [fill_putL]; exact slot_putL.2 h0
  | call fid args v Hb Ha l l' => exact slot_back.2 (hl.1 _ (by rw [he.2.1]; exact slot_hide.2 h0))

/-- a chain of steps -/
inductive Ch (x : X) : List (Nat × L) → DS → DS → Prop where
  | nil {s} : Ch x [] s s
  | cons {i a l s s' o} (ho : x.ops[i]? = some o) (he : En x i o s a) (t : Ch x l (nxt x i o a s) s') : Ch x ((i, a) :: l) s s'

/-- their temporaries are apart -/
def Apart (x : X) (j i : Nat) : Prop := ∀ oj oi, x.ops[j]? = some oj → x.ops[i]? = some oi →
  (∀ d, oj.dst = some d → d ∉ oi.looksAt x.ops) ∧ (∀ d, oi.dst = some d → d ∉ oj.looksAt x.ops) ∧ (∀ d, oj.dst = some d → oi.dst ≠ some d)

theorem front {x : X} {n0 : Nat} (hx : XOk x n0) : ∀ (l1 : List (Nat × L)) {i : Nat} {a : L} {l2 : List (Nat × L)} {s s' : DS}, Slots x s.H → (∀ p ∈ l1, LF x p.1 p.2) → LF x i a →
    (∀ p ∈ l1, Apart x p.1 i ∧ Fit x p.1 p.2 i a) → Ch x (l1 ++ (i, a) :: l2) s s' → ∃ oi, x.ops[i]? = some oi ∧ En x i oi s a ∧ Ch x (l1 ++ l2) (nxt x i oi a s) s' := by
  intro l1
  induction l1 with
  | nil =>
    intro i a l2 s s' _ _ _ _ h
    cases h with
    | cons ho he t => exact ⟨_, ho, he, t⟩
  | cons p l1 ih =>
    intro i a l2 s s' hs hl hla hp h
    cases h with
    | @cons j b _ _ _ oj ho he t =>
      obtain ⟨oi, g1, g2, g3⟩ := ih (nxt_slots hs (hl (j, b) (by simp)) he) (fun q hq => hl q (by simp [hq])) hla (fun q hq => hp q (by simp [hq])) t
      obtain ⟨q1, q2⟩ := hp (j, b) (by simp)
      obtain ⟨a1, a2, a3⟩ := q1 oj oi ho g1
      have hm : ∀ k, Mk x k → s.H.slot (x.pos k) := hs
      have hsl : ∀ q ∈ x.hid i ++ x.hid j, s.H.slot q := by
        intro q hq
        rcases List.mem_append.1 hq with hq | hq
        · obtain ⟨k, hk, rfl⟩ := hx.hid i q hq; exact hs k hk
        · obtain ⟨k, hk, rfl⟩ := hx.hid j q hq; exact hs k hk
      obtain ⟨e1, e2, e3⟩ := swap a1 a2 a3 ho g1 q2 (fun h => hs i ⟨oi, g1, h⟩) (fun h => hs j ⟨oj, ho, h⟩) (hl (j, b) (by simp)) hla hsl he g2
      exact ⟨oi, g1, e1, .cons ho e2 (by rw [e3]; exact g3)⟩

end Go.Proofs.YtobejienmopklaaGreatDoor.Ev

/- A step of a region whose order is drawn, in the world. -/
namespace Go.Proofs.YtobejienmopklaaGreatDoor.Ev
set_option linter.unusedSimpArgs false

section
variable {ρ : Rho} {H : Heap} {w : World}

/-- what is hidden belongs to someone else for a while -/
noncomputable def rhoB (ρ : Rho) (l : List Nat) (H : Heap) : Rho := ⟨ρ.loc, fun b => ρ.res b ∨ ∃ q ∈ l, ∃ o, H.get q = some o ∧ o ≠ .dead ∧ (ρ q).1 = b⟩

theorem owned_hide {l : List Nat} (b : Nat) : Owned (rhoB ρ l H) (hideH l H) b ↔ Owned ρ H b := by
  constructor
  · rintro ((h | ⟨q, _, o, h1, h2, h3⟩) | ⟨i, o, h1, h2, h3⟩)
    · exact .inl h
    · exact .inr ⟨q, o, h1, h2, h3⟩
    · rw [hide_get] at h1
      split at h1
      · cases h1
      · exact .inr ⟨i, o, h1, h2, h3⟩
  · rintro (h | ⟨i, o, h1, h2, h3⟩)
    · exact .inl (.inl h)
    · by_cases hi : i ∈ l
      · exact .inl (.inr ⟨i, hi, o, h1, h2, h3⟩)
      · exact .inr ⟨i, o, by rw [hide_get, if_neg hi]; exact h1, h2, h3⟩

theorem tra_hide (l : List Nat) : Tra0 (hideH l H).has ρ H w (rhoB ρ l H) (hideH l H) w where
  len _ h := h
  rho _ _ := rfl
  live i o' _ hg hd := by
    rw [hide_get] at hg
    split at hg
    · cases hg
    · exact ⟨o', hg, .refl hd⟩
  unown b _ h := fun h' => h ((owned_hide b).1 h')
  keep _ _ _ := rfl
  size b carr e fr h := ⟨carr, fr, h, rfl⟩
  grow := Nat.le_refl _
  os := rfl
  tape := rfl
  output := rfl

theorem hr_hide {l : List Nat} (h : HR ρ H w) (ho : ∀ id o, (hideH l H).get id = some o → ORB (hideH l H).has o) : HR (rhoB ρ l H) (hideH l H) w := by
  have sub : ∀ i o, (hideH l H).get i = some o → H.get i = some o ∧ i ∉ l := by
    intro i o hg
    rw [hide_get] at hg
    split at hg
    · cases hg
    · rename_i hi; exact ⟨hg, hi⟩
  refine ⟨fun id e ex wc fz cs hg => ?_, fun id wc es cl hg => ?_, fun i i' o o' h1 h2 h3 h4 h5 => h.inj _ _ _ _ (sub _ _ h1).1 h2 (sub _ _ h3).1 h4 h5, fun b hb => ?_, fun i o h1 h2 hb => ?_⟩
  · obtain ⟨carr, lo, hi, h1, h2, h3, h4, h5⟩ := h.row _ _ _ _ _ _ (sub _ _ hg).1
    exact ⟨carr, lo, hi, h1, h2, h3, h4, fun j a ha => let ⟨v, m1, m2⟩ := h5 j a ha; ⟨v, m1, m2.tra0 (tra_hide l) (ho _ _ hg j a ha)⟩⟩
  · obtain ⟨ces, h1, h2, h3⟩ := h.map _ _ _ _ (sub _ _ hg).1
    exact ⟨ces, h1, h2, fun j k v b hb => let ⟨e, m1, m2, m3, m4⟩ := h3 j k v b hb; ⟨e, m1, m2.tra0 (tra_hide l) (ho _ _ hg j k v b hb).1, m3.tra0 (tra_hide l) (ho _ _ hg j k v b hb).2, m4⟩⟩
  · rcases hb with hb | ⟨q, _, o, h1, h2, rfl⟩
    · exact h.res b hb
    · exact h.lt h1 h2
  · obtain ⟨g1, g2⟩ := sub i o h1
    rcases hb with hb | ⟨q, hq, o', k1, k2, k3⟩
    · exact h.apart i o g1 h2 hb
    · exact g2 (h.inj _ _ _ _ k1 k2 g1 h2 k3 ▸ hq)

/-- after the call all is put back -/
theorem stp_back {l : List Nat} {n0 low low' : Nat} {ρ1 : Rho} {Ha : Heap} {w' : World} (h : HR ρ H w) (hs : ∀ q ∈ l, H.slot q) (hn : n0 ≤ H.len) (hl : ∀ q ∈ l, n0 ≤ q) (hlen : (hideH l H).len ≤ Ha.len)
    (hho : ∀ id, (hideH l H).hole id → Ha.hole id) (s : Stp (rhoB ρ l H) (hideH l H) low w ρ1 Ha low' w') :
    ∃ ρ2, StpS H.has n0 ρ H low w ρ2 (backH l H Ha) low' w' ∧ ∀ v u, AVR ρ1 Ha w' v u → AVR ρ2 (backH l H Ha) w' v u := by
  have hslot : ∀ q ∈ l, Ha.hole q := by
    intro q hq
    refine hho q ?_
    unfold Heap.hole
    rw [hide_sl, if_pos hq]
    have := hs q hq
    unfold Heap.slot at this
    cases hsl : H.sl q with
    | none => rw [hsl] at this; cases this
    | some y => rfl
  have gin : ∀ q, q ∈ l → (backH l H Ha).get q = H.get q := fun q hq => by rw [back_get _ _ _ _ (fun _ => Heap.slot_of_hole (hslot q hq)), if_pos hq]
  have gout : ∀ q, q ∉ l → (backH l H Ha).get q = Ha.get q := fun q hq => by rw [back_get _ _ _ _ (fun h => absurd h hq), if_neg hq]
  have nothas : ∀ q, Ha.has q → q ∉ l := fun q ⟨o, ho⟩ hq => by rw [Heap.get_hole (hslot q hq)] at ho; cases ho
  let ρ2 : Rho := ⟨fun i => if i ∈ l then ρ i else ρ1 i, ρ.res⟩
  have rin : ∀ q, q ∈ l → ρ2 q = ρ q := fun q hq => by show (if q ∈ l then _ else _) = _; rw [if_pos hq]
  have rout : ∀ q, q ∉ l → ρ2 q = ρ1 q := fun q hq => by show (if q ∈ l then _ else _) = _; rw [if_neg hq]
  have hres : ρ1.res = (rhoB ρ l H).res := s.tra.res
  have own : ∀ b, Owned ρ2 (backH l H Ha) b → Owned ρ1 Ha b := by
    rintro b (hb | ⟨i, o, h1, h2, h3⟩)
    · exact .inl (by rw [hres]; exact .inl hb)
    · by_cases hi : i ∈ l
      · rw [gin i hi] at h1
        rw [rin i hi] at h3
        exact .inl (by rw [hres]; exact .inr ⟨i, hi, o, h1, h2, h3⟩)
      · rw [gout i hi] at h1
        rw [rout i hi] at h3
        exact .inr ⟨i, o, h1, h2, h3⟩
  have T1 : Tra0 Ha.has ρ1 Ha w' ρ2 (backH l H Ha) w' :=
    ⟨fun i ⟨o, hi⟩ => ⟨o, by rw [gout i (nothas i ⟨o, hi⟩)]; exact hi⟩, fun i hi => rout i (nothas i hi), fun i o' hi hg hd => ⟨o', by rw [← gout i (nothas i hi)]; exact hg, .refl hd⟩,
      fun b _ hno ho => hno (own b ho), fun _ _ _ => rfl, fun b carr e fr hb => ⟨carr, fr, hb, rfl⟩, Nat.le_refl _, rfl, rfl, rfl⟩
  have hhas : ∀ i, H.has i → i ∉ l → (hideH l H).has i := fun i ⟨o, ho⟩ hi => ⟨o, by rw [hide_get, if_neg hi]; exact ho⟩
  have T : Tra H.has ρ H w ρ2 (backH l H Ha) w' := by
    refine ⟨⟨fun i hi => ?_, fun i hi => ?_, fun i o' hi hg hd => ?_, fun b hb hno ho => ?_, fun b hb hno => ?_, s.tra.size, s.tra.grow, s.tra.os, s.tra.tape, s.tra.output⟩, rfl, fun b hb => s.tra.resk b (.inl hb)⟩
    · by_cases h1 : i ∈ l
      · obtain ⟨o, ho⟩ := hi; exact ⟨o, by rw [gin i h1]; exact ho⟩
      · exact T1.len i (s.tra.len i (hhas i hi h1))
    · by_cases h1 : i ∈ l
      · exact rin i h1
      · rw [rout i h1]; exact s.tra.rho i (hhas i hi h1)
    · by_cases h1 : i ∈ l
      · rw [gin i h1] at hg; exact ⟨o', hg, .refl hd⟩
      · rw [gout i h1] at hg
        obtain ⟨o, k1, k2⟩ := s.tra.live i o' (hhas i hi h1) hg hd
        rw [hide_get, if_neg h1] at k1
        exact ⟨o, k1, k2⟩
    · exact s.tra.unown b hb (fun h' => hno ((owned_hide b).1 h')) (own b ho)
    · exact s.tra.keep b hb (fun h' => hno ((owned_hide b).1 h'))
  have kept : ∀ q, q ∈ l → ∀ o, H.get q = some o → o ≠ .dead → w'.heap[(ρ q).1]? = w.heap[(ρ q).1]? := fun q hq o h1 h2 => s.tra.resk _ (.inr ⟨q, hq, o, h1, h2, rfl⟩)
  refine ⟨ρ2, ⟨T, ⟨fun id e ex wc fz cs hg => ?_, fun id wc es cl hg => ?_, fun i j o o' h1 h2 h3 h4 h5 => ?_, fun b hb => Nat.lt_of_lt_of_le (h.res b hb) s.tra.grow, fun i o h1 h2 hb => ?_⟩, ⟨s.low.1, fun n h1 h2 h3 i o hi hg => ?_⟩, ?_, fun i o hg => ?_, fun i hi hh => ?_⟩, fun v u hv => hv.tra0 T1 hv.rb⟩
  · by_cases hi : id ∈ l
    · rw [gin id hi] at hg
      obtain ⟨carr, lo, hi', h1, h2, h3, h4, h5⟩ := h.row _ _ _ _ _ _ hg
      rw [rin id hi, kept id hi _ hg (by simp)]
      exact ⟨carr, lo, hi', h1, h2, h3, h4, fun j a ha => let ⟨v, m1, m2⟩ := h5 j a ha; ⟨v, m1, m2.mono T⟩⟩
    · rw [gout id hi] at hg
      obtain ⟨carr, lo, hi', h1, h2, h3, h4, h5⟩ := s.hr.row _ _ _ _ _ _ hg
      rw [rout id hi]
      exact ⟨carr, lo, hi', h1, h2, h3, h4, fun j a ha => let ⟨v, m1, m2⟩ := h5 j a ha; ⟨v, m1, m2.tra0 T1 m2.rb⟩⟩
  · by_cases hi : id ∈ l
    · rw [gin id hi] at hg
      obtain ⟨ces, h1, h2, h3⟩ := h.map _ _ _ _ hg
      rw [rin id hi, kept id hi _ hg (by simp)]
      exact ⟨ces, h1, h2, fun j k v b hb => let ⟨e, m1, m2, m3, m4⟩ := h3 j k v b hb; ⟨e, m1, m2.mono T, m3.mono T, m4⟩⟩
    · rw [gout id hi] at hg
      obtain ⟨ces, h1, h2, h3⟩ := s.hr.map _ _ _ _ hg
      rw [rout id hi]
      exact ⟨ces, h1, h2, fun j k v b hb => let ⟨e, m1, m2, m3, m4⟩ := h3 j k v b hb; ⟨e, m1, m2.tra0 T1 m2.rb, m3.tra0 T1 m3.rb, m4⟩⟩
  · have mixed : ∀ i j o o', i ∈ l → j ∉ l → (backH l H Ha).get i = some o → o ≠ .dead → (backH l H Ha).get j = some o' → o' ≠ .dead → (ρ2 i).1 = (ρ2 j).1 → False := by
      intro i j o o' hi hj h1 h2 h3 h4 h5
      rw [gin i hi] at h1
      rw [gout j hj] at h3
      rw [rin i hi, rout j hj] at h5
      refine s.hr.apart j o' h3 h4 ?_
      rw [hres]
      exact .inr ⟨i, hi, o, h1, h2, h5⟩
    by_cases hi : i ∈ l <;> by_cases hj : j ∈ l
    · rw [gin i hi] at h1
      rw [gin j hj] at h3
      rw [rin i hi, rin j hj] at h5
      exact h.inj _ _ _ _ h1 h2 h3 h4 h5
    · exact (mixed i j o o' hi hj h1 h2 h3 h4 h5).elim
    · exact (mixed j i o' o hj hi h3 h4 h1 h2 h5.symm).elim
    · rw [gout i hi] at h1
      rw [gout j hj] at h3
      rw [rout i hi, rout j hj] at h5
      exact s.hr.inj _ _ _ _ h1 h2 h3 h4 h5
  · by_cases hi : i ∈ l
    · rw [gin i hi] at h1
      rw [rin i hi] at hb
      exact h.apart i o h1 h2 hb
    · rw [gout i hi] at h1
      rw [rout i hi] at hb
      refine s.hr.apart i o h1 h2 ?_
      rw [hres]; exact .inl hb
  · by_cases h4 : i ∈ l
    · rw [gin i h4] at hg; exact h3 i o hi hg
    · rw [gout i h4] at hg
      refine s.low.2 n h1 (by rw [hide_len]; exact Nat.le_trans h2 hn) (fun i2 o2 hi2 hg2 => ?_) i o hi hg
      rw [hide_get] at hg2
      split at hg2
      · cases hg2
      · exact h3 i2 o2 hi2 hg2
  · rw [back_len]; rw [hide_len] at hlen; exact hlen
  · by_cases h4 : i ∈ l
    · exact ⟨o, by rw [gin i h4]; exact hg, .refl o⟩
    · obtain ⟨o', k1, k2⟩ := s.wle i o (by rw [hide_get, if_neg h4]; exact hg)
      exact ⟨o', by rw [gout i h4]; exact k1, k2⟩
  · have h4 : i ∉ l := fun h4 => by have := hl i h4; omega
    unfold Heap.hole
    rw [back_sl, if_neg h4]
    refine hho i ?_
    unfold Heap.hole
    rw [hide_sl, if_neg h4]; exact hh
end

theorem dstep_ok {D : List Deferred} {x : X} {n0 i : Nat} {o : Oper} {s : DS} {lab : L} {ρ : Rho} {w : World} {a : Act} {next : Act → World → Prop} {Q : Exit → Act → World → Prop} (hc : CallOK x.C x.call) (hx : XOk x n0) (h : St x.C x.nt D ρ s.H w s.env a)
    (ho : x.ops[i]? = some o) (he : En x i o s lab) (hl : LF x i lab) (hs : Slots x s.H) (hh : isMk o.op = true → s.H.hole (x.pos i)) (hn0 : n0 ≤ s.H.len)
    (hn : ∀ ρ' w' a', StpS s.H.has n0 ρ s.H s.low w ρ' (nxt x i o lab s).H (nxt x i o lab s).low w' → St x.C x.nt D ρ' (nxt x i o lab s).H w' (nxt x i o lab s).env a' → next a' w') : wpOp x.C.P x.ops Q i next a w := by
  unfold wpOp
  rw [ho]
  simp only
  have hw : ∀ b, wants x.ops o s.env = some b → Region.wanted o (yielded x.ops a.tmps) = b := by
    intro b hb
    unfold wants at hb
    cases hg : o.guard with
    | none => rw [hg] at hb; cases hb; simp [Region.wanted, hg]
    | some g => rw [hg] at hb; exact guard_is h hg hb
  have hk := kind_ok (o := o) h.er h.hr
  have put : ∀ {ρ' : Rho} {H' : Heap} {w' : World} {v : AV} {u : Value} {l l' : Nat}, StpS s.H.has n0 ρ s.H l w ρ' H' l' w' → AVR ρ' H' w' v u → St x.C x.nt D ρ' H' w' (putF x.nt o.dst v s.env) (a.put o.dst u) := fun st hv =>
    (⟨st.hr, h.er.mono st.tra, h.size, h.defers⟩ : St x.C x.nt D _ _ _ s.env a).put hv
  have same : ∀ l, StpS s.H.has n0 ρ s.H l w ρ s.H l w := fun l => StpS.weaken (Stp.refl h.hr) (fun _ h => h) hn0
  cases lab with
  | quiet v =>
    rcases he with ⟨h1, rfl⟩ | ⟨h1, f, h2, h3⟩
    · rw [if_neg (by rw [hw _ h1]; simp)]
      exact hn ρ w _ (same _) (put (same s.low) .undef)
    · rw [if_pos (hw _ h1)]
      left
      rw [h2] at hk
      obtain ⟨u, r1, r2⟩ := hk v h3
      unfold Oper.wp
      rw [r1, Oper.upon_value]
      exact hn ρ w _ (same _) (put (same s.low) r2)
  | gen v rd wr new =>
    obtain ⟨h1, h4, f, h2, h3⟩ := he
    rw [if_pos (hw _ h1)]
    left
    have hloc := gen_loc h2 h3
    rw [h2] at hk
    obtain ⟨nx, u, w', r1, r2, r3⟩ := hk _ _ h3
    have key : next (a.put o.dst u) w' := by
      cases new with
      | none =>
        obtain ⟨s1, s2⟩ := r3
        have st : StpS s.H.has n0 ρ s.H s.low w ρ (layH wr s.H) (layL wr s.low) w' := (s1 s.low).weaken (fun _ h => h) hn0
        exact hn ρ w' _ st (put st s2)
      | some obj =>
        have hmk := h4 rfl
        have hhole := hh hmk
        have hH : ∀ j, j ∉ wr.map (·.1) → (layH wr s.H).sl j = s.H.sl j := by
          intro j hj
          have e := fill_putL wr none 0 s.H
          simp only [fillN] at e
          rw [e]
          refine putL_sl fun hm => hj ?_
          obtain ⟨y, hy, rfl⟩ := List.mem_map.1 hm
          simp only [keysOf, List.append_nil] at hy
          obtain ⟨z, hz, rfl⟩ := List.mem_map.1 hy
          exact List.mem_map.2 ⟨z, hz, rfl⟩
        have hnot : x.pos i ∉ wr.map (·.1) := by
          intro hm
          obtain ⟨z, hz, e⟩ := List.mem_map.1 hm
          obtain ⟨o', g1, _⟩ := hloc.2 z hz
          rw [e, Heap.get_hole hhole] at g1; cases g1
        have hF : Filled (layH wr s.H) (x.pos i) obj ((layH wr s.H).set (x.pos i) obj) := filled_set _ _ _ (by unfold Heap.hole; rw [hH _ hnot]; exact hhole)
        obtain ⟨p, s1, s2⟩ := r3 s.H.has _ s.low hF (fun j hj => ⟨hj, fun e => by subst e; obtain ⟨o', g⟩ := hj; rw [Heap.get_hole hhole] at g; cases g⟩) (fun id o hg => h.hr.orb hg) (fun t => (h.er.slot t).rb) (Heap.get_hole hhole)
        have st := s1.weaken (fun _ h => h) (hx.low i ⟨o, ho, hmk⟩)
        exact hn _ w' _ st (put st s2)
    unfold Oper.wp
    rw [r1]
    rcases r2 with rfl | ⟨rfl, rfl⟩
    · exact key
    · exact key
  | call fid args v Hb Ha l l' =>
    obtain ⟨h1, rfl, rfl, ⟨f, h2, h3⟩, h5⟩ := he
    rw [if_pos (hw _ h1)]
    left
    rw [h2] at hk
    obtain ⟨vals, k1, k3⟩ := hk fid args h3
    obtain ⟨l1, l2, l3, l4, l5, _⟩ := hl
    obtain ⟨⟨fn, f1, f2, f3⟩, hcalls⟩ := hc fid args _ _ _ h5
    unfold Oper.wp
    rw [k3, run_callFunc f1 f2 f3, Oper.upon_enter]
    have hargs : ArgsR (rhoB ρ (x.hid i) s.H) (hideH (x.hid i) s.H) w args vals := ⟨k1.1, fun j b u hb hu => (k1.2 j b u hb hu).tra0 (tra_hide _) (l4 j b hb)⟩
    have hglob : GlobOK x.C (rhoB ρ (x.hid i) s.H) (hideH (x.hid i) s.H) w := fun g cs hg => (h.er.glob g cs hg).tra0 (tra_hide _) (by
      have := (h.er.glob g cs hg).rb
      cases this with
      | iptr _ hh => exact .iptr _ hh)
    refine (hcalls _ w vals (hr_hide h.hr l3) hglob hargs).mono fun e w' hR => ?_
    cases e with
    | returned u =>
      obtain ⟨ρ1, v1, H1, low1, e1, s1, s2⟩ := hR
      cases e1
      have hq : ∀ q ∈ x.hid i, s.H.slot q ∧ n0 ≤ q := fun q hq => by
        obtain ⟨k, hk, rfl⟩ := hx.hid i q hq
        exact ⟨hs k hk, hx.low k hk⟩
      obtain ⟨ρ2, st, hv⟩ := stp_back h.hr (fun q hq' => (hq q hq').1) hn0 (fun q hq' => (hq q hq').2) l5 l2 s1
      exact hn ρ2 w' _ st (put st (hv _ _ s2))
    | panicked ch => obtain ⟨_, _, _, _, _, e1, _⟩ := hR; cases e1
    | outgrown => exact hR.elim

end Go.Proofs.YtobejienmopklaaGreatDoor.Ev
