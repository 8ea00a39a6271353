/- LowerRuns: what abstract values stand for; heap steps. Conditions: none beyond the card's own. -/
import Derived.Test.YtobejienmopklaaGreatDoorE1
import Derived.Laws.Sem
import Derived.Lib.FrozenHead
/- Plain lemmas on the evaluator's lists, trees and heap. -/
namespace Go.Proofs.YtobejienmopklaaGreatDoor.Ev

@[simp] theorem cnd_true {α : Type} (x y : α) : cnd true x y = x := rfl
@[simp] theorem cnd_false {α : Type} (x y : α) : cnd false x y = y := rfl
theorem cnd_eq {α : Type} (b : Bool) (x y : α) : cnd b x y = if b = true then x else y := by cases b <;> rfl
@[simp] theorem bnd_none {α β : Type} (k : α → Option β) : bnd none k = none := rfl
@[simp] theorem bnd_some {α β : Type} (a : α) (k : α → Option β) : bnd (some a) k = k a := rfl
theorem bnd_eq {α β : Type} {x : Option α} {k : α → Option β} {b : β} : bnd x k = some b ↔ ∃ a, x = some a ∧ k a = some b := by
  cases x <;> simp
theorem cnd_some {α : Type} {b : Bool} {x : Option α} {a : α} : cnd b x none = some a ↔ b = true ∧ x = some a := by
  cases b <;> simp

theorem Nat.now_eq {α : Type} (n : Nat) (k : Nat → α) : Nat.now n k = k n := by cases n <;> rfl
theorem Int.now_eq {α : Type} (n : Int) (k : Int → α) : Int.now n k = k n := by
  cases n with
  | ofNat n => cases n <;> rfl
  | negSucc n => cases n <;> rfl
theorem intA_eq (k : IntKind) (n : Int) : intA k n = some (.int k n) := by unfold intA; rw [Int.now_eq]

/- ### lists -/
section lists
variable {α : Type}
@[simp] theorem nth_nil (n : Nat) : nth ([] : List α) n = none := rfl
@[simp] theorem nth_zero (x : α) (xs : List α) : nth (x :: xs) 0 = some x := rfl
@[simp] theorem nth_succ (x : α) (xs : List α) (n : Nat) : nth (x :: xs) (n + 1) = nth xs n := rfl
theorem nth_eq (xs : List α) : ∀ n, nth xs n = xs[n]? := by
  induction xs with
  | nil => intro n; simp
  | cons x xs ih => intro n; cases n with
    | zero => simp
    | succ n => simp [ih]
@[simp] theorem setN_nil (n : Nat) (v : α) : setN [] n v = [] := rfl
@[simp] theorem setN_zero (x : α) (xs : List α) (v : α) : setN (x :: xs) 0 v = v :: xs := rfl
@[simp] theorem setN_succ (x : α) (xs : List α) (n : Nat) (v : α) : setN (x :: xs) (n + 1) v = x :: setN xs n v := rfl
theorem setN_eq (xs : List α) : ∀ n (v : α), setN xs n v = xs.set n v := by
  induction xs with
  | nil => intro n v; simp
  | cons x xs ih => intro n v; cases n with
    | zero => simp
    | succ n => simp [ih]
theorem takeN_zero (xs : List α) : takeN 0 xs = some [] := rfl
theorem takeN_nil (n : Nat) : takeN (n + 1) ([] : List α) = none := rfl
theorem takeN_cons (n : Nat) (x : α) (xs : List α) : takeN (n + 1) (x :: xs) = bnd (takeN n xs) fun r => some (x :: r) := rfl
theorem takeN_eq : ∀ (n : Nat) (xs r : List α), takeN n xs = some r ↔ n ≤ xs.length ∧ r = xs.take n := by
  intro n
  induction n with
  | zero => intro xs r; rw [takeN_zero]; simp [eq_comm]
  | succ n ih =>
    intro xs r
    cases xs with
    | nil => rw [takeN_nil]; simp
    | cons x xs =>
      rw [takeN_cons, bnd_eq]
      constructor
      · rintro ⟨a, h, h'⟩
        obtain ⟨h1, rfl⟩ := (ih _ _).1 h
        simp at h'
        exact ⟨by simpa using h1, by simp [h']⟩
      · rintro ⟨h, rfl⟩
        exact ⟨xs.take n, (ih _ _).2 ⟨by simpa using h, rfl⟩, by simp⟩
theorem dropN_eq : ∀ (n : Nat) (xs : List α), dropN n xs = xs.drop n := by
  intro n
  induction n with
  | zero => intro xs; rfl
  | succ n ih => intro xs; cases xs with
    | nil => rfl
    | cons x xs => show dropN n xs = _; simp [ih]
theorem cut_eq {xs r : List α} {off n : Nat} : cut xs off n = some r ↔ (n ≤ xs.length - off) ∧ r = (xs.drop off).take n := by
  unfold cut; rw [dropN_eq, takeN_eq]; simp
theorem cut_len {xs r : List α} {off n : Nat} (h : cut xs off n = some r) : r.length = n := by
  obtain ⟨h1, rfl⟩ := cut_eq.1 h
  simp; omega
theorem cut_get {xs r : List α} {off n : Nat} (h : cut xs off n = some r) (j : Nat) (hj : j < n) : r[j]? = xs[off + j]? := by
  obtain ⟨h1, rfl⟩ := cut_eq.1 h
  simp [hj, List.getElem?_drop]
theorem over_nil (xs : List α) : over [] xs = some xs := rfl
theorem over_cons_nil (v : α) (vs : List α) : over (v :: vs) [] = none := rfl
theorem over_cons (v : α) (vs : List α) (x : α) (xs : List α) : over (v :: vs) (x :: xs) = bnd (over vs xs) fun r => some (v :: r) := rfl
theorem over_eq : ∀ (vs xs r : List α), over vs xs = some r ↔ vs.length ≤ xs.length ∧ r = vs ++ xs.drop vs.length := by
  intro vs
  induction vs with
  | nil => intro xs r; rw [over_nil]; simp [eq_comm]
  | cons v vs ih =>
    intro xs r
    cases xs with
    | nil => rw [over_cons_nil]; simp
    | cons x xs =>
      rw [over_cons, bnd_eq]
      constructor
      · rintro ⟨a, h, h'⟩
        obtain ⟨h1, rfl⟩ := (ih _ _).1 h
        simp at h'
        exact ⟨by simpa using h1, by simp [← h']⟩
      · rintro ⟨h, rfl⟩
        exact ⟨_, (ih _ _).2 ⟨by simpa using h, rfl⟩, by simp⟩
theorem put_zero (vs : List α) (xs : List α) : put 0 vs xs = over vs xs := rfl
theorem put_nil (n : Nat) (vs : List α) : put (n + 1) vs [] = none := rfl
theorem put_cons (n : Nat) (vs : List α) (x : α) (xs : List α) : put (n + 1) vs (x :: xs) = bnd (put n vs xs) fun r => some (x :: r) := rfl
theorem put_eq (vs : List α) : ∀ (n : Nat) (xs r : List α), put n vs xs = some r ↔ (n + vs.length ≤ xs.length) ∧ r = xs.take n ++ vs ++ xs.drop (n + vs.length) := by
  intro n
  induction n with
  | zero => intro xs r; rw [put_zero, over_eq]; simp
  | succ n ih =>
    intro xs r
    cases xs with
    | nil => rw [put_nil]; simp
    | cons x xs =>
      rw [put_cons, bnd_eq]
      constructor
      · rintro ⟨a, h, h'⟩
        obtain ⟨h1, rfl⟩ := (ih _ _).1 h
        simp at h'
        refine ⟨by simp; omega, ?_⟩
        rw [← h', show n + 1 + vs.length = (n + vs.length) + 1 from by omega]; simp
      · rintro ⟨h, rfl⟩
        refine ⟨_, (ih _ _).2 ⟨by simp at h; omega, rfl⟩, ?_⟩
        rw [show n + 1 + vs.length = (n + vs.length) + 1 from by omega]; simp
theorem put_len {vs xs r : List α} {n : Nat} (h : put n vs xs = some r) : r.length = xs.length := by
  obtain ⟨h1, rfl⟩ := (put_eq _ _ _ _).1 h
  simp; omega
theorem put_get {vs xs r : List α} {n : Nat} (h : put n vs xs = some r) (j : Nat) :
    r[j]? = if n ≤ j ∧ j < n + vs.length then vs[j - n]? else xs[j]? := by
  obtain ⟨h1, rfl⟩ := (put_eq _ _ _ _).1 h
  rw [List.getElem?_append]
  simp only [List.length_append, List.length_take, Nat.min_eq_left (show n ≤ xs.length by omega)]
  by_cases h2 : j < n + vs.length
  · rw [if_pos h2, List.getElem?_append]
    simp only [List.length_take, Nat.min_eq_left (show n ≤ xs.length by omega)]
    by_cases h3 : j < n
    · rw [if_pos h3, if_neg (by omega), List.getElem?_take, if_pos h3]
    · rw [if_neg h3, if_pos (by omega)]
  · rw [if_neg h2, if_neg (by omega), List.getElem?_drop]
    congr 1; omega
end lists

/- ### trees -/
theorem bitsF_zero (n : Nat) : bitsF 0 n = [] := rfl
theorem bitsF_succ (f n : Nat) : bitsF (f + 1) n = cnd (Nat.beq n 0) [] (Nat.beq (Nat.mod n 2) 0 :: bitsF f (Nat.div (Nat.sub n 1) 2)) := rfl
def back : List Bool → Nat
  | [] => 0
  | true :: p => 2 * back p + 2
  | false :: p => 2 * back p + 1
theorem back_bitsF : ∀ (f n : Nat), n < f → back (bitsF f n) = n := by
  intro f
  induction f with
  | zero => intro n h; omega
  | succ f ih =>
    intro n h
    rw [bitsF_succ]
    cases n with
    | zero => rfl
    | succ n =>
      have e : Nat.div (Nat.sub (n + 1) 1) 2 = n / 2 := rfl
      have h1 : (Nat.beq (n + 1) 0) = false := rfl
      rw [h1, cnd_false, e]
      have hi := ih (n / 2) (by omega)
      have hm : Nat.mod (n + 1) 2 = (n + 1) % 2 := rfl
      rw [hm]
      rcases Nat.mod_two_eq_zero_or_one (n + 1) with h2 | h2
      · rw [h2]; show 2 * back (bitsF f (n / 2)) + 2 = n + 1; rw [hi]; omega
      · rw [h2]; show 2 * back (bitsF f (n / 2)) + 1 = n + 1; rw [hi]; omega
theorem bits_inj {n m : Nat} (h : bits n = bits m) : n = m := by
  have h1 := back_bitsF (n + 1) n (by omega)
  have h2 := back_bitsF (m + 1) m (by omega)
  unfold bits at h
  rw [← h1, ← h2]; exact congrArg back h

section trees
variable {α : Type}
theorem getP_nil_leaf : Tr.getP [] (Tr.leaf : Tr α) = none := rfl
theorem getP_leaf (p : List Bool) : Tr.getP p (Tr.leaf : Tr α) = none := by
  cases p with
  | nil => rfl
  | cons b p => cases b <;> rfl
theorem getP_set (p : List Bool) : ∀ (q : List Bool) (x : α) (t : Tr α), Tr.getP q (Tr.setP p x t) = if q = p then some x else Tr.getP q t := by
  induction p with
  | nil =>
    intro q x t
    cases q with
    | nil => cases t <;> rfl
    | cons b q => rw [if_neg (by simp)]; cases t <;> cases b <;> first | rfl | exact getP_leaf q
  | cons b p ih =>
    intro q x t
    cases q with
    | nil => rw [if_neg (by simp)]; cases t <;> cases b <;> rfl
    | cons c q =>
      cases t with
      | leaf =>
        cases b <;> cases c
        · show Tr.getP q (Tr.setP p x .leaf) = _
          rw [ih]; simp [getP_leaf]
        · rw [if_neg (by simp)]; exact getP_leaf q
        · rw [if_neg (by simp)]; exact getP_leaf q
        · show Tr.getP q (Tr.setP p x .leaf) = _
          rw [ih]; simp [getP_leaf]
      | node l v r =>
        cases b <;> cases c
        · show Tr.getP q (Tr.setP p x l) = _
          rw [ih]; simp; rfl
        · rw [if_neg (by simp)]; rfl
        · rw [if_neg (by simp)]; rfl
        · show Tr.getP q (Tr.setP p x r) = _
          rw [ih]; simp; rfl
theorem Tr.get_set (t : Tr α) (n m : Nat) (x : α) : (Tr.set t n x).get m = if m = n then some x else t.get m := by
  unfold Tr.get Tr.set
  rw [getP_set]
  by_cases h : m = n
  · subst h; simp
  · rw [if_neg h, if_neg (fun e => h (bits_inj e))]
theorem Tr.get_leaf (n : Nat) : Tr.get (Tr.leaf : Tr α) n = none := getP_leaf _
end trees

/- ### the heap -/
/-- what stands at a number: none: no such number; some none: not made yet -/
def Heap.sl : Heap → Nat → Option (Option AO)
  | .mk n l, id => if id < n then l[n - (id + 1)]? else none
def Heap.hole (H : Heap) (id : Nat) : Prop := H.sl id = some none
def Heap.slot (H : Heap) (id : Nat) : Prop := (H.sl id).isSome = true
instance (H : Heap) (id : Nat) : Decidable (H.slot id) := inferInstanceAs (Decidable (_ = true))
def Heap.has (H : Heap) (id : Nat) : Prop := ∃ o, H.get id = some o
theorem blt_cnd {α : Type} {i n : Nat} {x y : α} : cnd (Nat.blt i n) x y = if i < n then x else y := by
  rw [cnd_eq]
  by_cases h : i < n
  · rw [if_pos (by simpa [Nat.blt_eq] using h), if_pos h]
  · rw [if_neg (by simpa [Nat.blt_eq] using h), if_neg h]
theorem Heap.sl_mk (n : Nat) (l : List (Option AO)) (id : Nat) : Heap.sl (.mk n l) id = if id < n then l[n - (id + 1)]? else none := rfl
theorem Heap.len_mk (n : Nat) (l : List (Option AO)) : Heap.len (.mk n l) = n := rfl
theorem Heap.get_sl (H : Heap) (id : Nat) : H.get id = (H.sl id).join := by
  cases H with
  | mk n l =>
    unfold Heap.get Heap.sl
    simp only [blt_cnd]
    by_cases h : id < n
    · rw [if_pos h, if_pos h, nth_eq]
      show bnd l[n - (id + 1)]? _ = _
      cases l[n - (id + 1)]? <;> rfl
    · rw [if_neg h, if_neg h]; rfl
theorem Heap.sl_none {H : Heap} {id : Nat} (h : H.len ≤ id) : H.sl id = none := by
  cases H with
  | mk n l => rw [Heap.sl_mk, if_neg (by rw [Heap.len_mk] at h; omega)]
theorem Heap.get_none {H : Heap} {id : Nat} (h : H.len ≤ id) : H.get id = none := by
  rw [Heap.get_sl, Heap.sl_none h]; rfl
theorem Heap.sl_of_get {H : Heap} {id : Nat} {o : AO} (h : H.get id = some o) : H.sl id = some (some o) := by
  rw [Heap.get_sl] at h
  cases hs : H.sl id with
  | none => rw [hs] at h; cases h
  | some x => rw [hs] at h; cases x with
    | none => cases h
    | some x => cases h; rfl
theorem Heap.get_of_sl {H : Heap} {id : Nat} {x : Option AO} (h : H.sl id = some x) : H.get id = x := by
  rw [Heap.get_sl, h]; cases x <;> rfl
theorem Heap.get_hole {H : Heap} {id : Nat} (h : H.hole id) : H.get id = none := Heap.get_of_sl h
theorem Heap.slot_of_get {H : Heap} {id : Nat} {o : AO} (h : H.get id = some o) : H.slot id := by unfold Heap.slot; rw [Heap.sl_of_get h]; rfl
theorem Heap.slot_of_hole {H : Heap} {id : Nat} (h : H.hole id) : H.slot id := by unfold Heap.slot; rw [h]; rfl
theorem Heap.lt_of_slot {H : Heap} {id : Nat} (h : H.slot id) : id < H.len := by
  rcases Nat.lt_or_ge id H.len with h1 | h1
  · exact h1
  · unfold Heap.slot at h; rw [Heap.sl_none h1] at h; cases h
theorem Heap.lt_of_get {H : Heap} {id : Nat} {o : AO} (h : H.get id = some o) : id < H.len := Heap.lt_of_slot (Heap.slot_of_get h)
theorem Heap.lt_of_has {H : Heap} {id : Nat} (h : H.has id) : id < H.len := h.elim fun _ h => Heap.lt_of_get h
@[simp] theorem Heap.len_put (H : Heap) (id : Nat) (o : Option AO) : (H.put id o).len = H.len := by
  cases H; unfold Heap.put; simp only [blt_cnd]; split <;> rfl
@[simp] theorem Heap.len_set (H : Heap) (id : Nat) (o : AO) : (H.set id o).len = H.len := Heap.len_put _ _ _
@[simp] theorem Heap.len_push (H : Heap) (o : AO) : (H.push o).len = H.len + 1 := by cases H; rfl
@[simp] theorem Heap.len_trunc (H : Heap) (n : Nat) : (H.trunc n).len = n := by cases H; rfl
theorem Heap.sl_put (H : Heap) (id : Nat) (o : Option AO) (j : Nat) : (H.put id o).sl j = if j = id then (H.sl id).map (fun _ => o) else H.sl j := by
  cases H with
  | mk n l =>
    unfold Heap.put
    simp only [blt_cnd, setN_eq]
    by_cases hid : id < n
    · rw [if_pos hid]
      show (if j < n then (l.set (n - (id + 1)) o)[n - (j + 1)]? else none) = _
      by_cases hj : j < n
      · rw [if_pos hj]
        by_cases e : j = id
        · subst e
          rw [if_pos rfl]
          show _ = ((if j < n then l[n - (j + 1)]? else none).map _)
          rw [if_pos hj]
          by_cases h1 : n - (j + 1) < l.length
          · simp [h1]
          · rw [List.getElem?_eq_none (by simp; omega), List.getElem?_eq_none (by omega)]; rfl
        · rw [if_neg e, List.getElem?_set_ne (by omega)]
          show _ = (if j < n then l[n - (j + 1)]? else none)
          rw [if_pos hj]
      · rw [if_neg hj, if_neg (by omega)]
        show _ = (if j < n then l[n - (j + 1)]? else none)
        rw [if_neg hj]
    · rw [if_neg hid]
      by_cases e : j = id
      · subst e
        rw [if_pos rfl, Heap.sl_none (by rw [Heap.len_mk]; omega)]; rfl
      · rw [if_neg e]
theorem Heap.sl_set (H : Heap) (id : Nat) (o : AO) (j : Nat) : (H.set id o).sl j = if j = id then (H.sl id).map (fun _ => some o) else H.sl j := Heap.sl_put _ _ _ _
theorem Heap.get_put (H : Heap) (id : Nat) (o : Option AO) (j : Nat) : (H.put id o).get j = if j = id then (if H.slot id then o else none) else H.get j := by
  rw [Heap.get_sl, Heap.sl_put]
  by_cases h : j = id
  · subst h
    rw [if_pos rfl, if_pos rfl]
    cases hs : H.sl j with
    | none => rw [if_neg (by unfold Heap.slot; rw [hs]; simp)]; rfl
    | some x => rw [if_pos (by unfold Heap.slot; rw [hs]; rfl)]; cases o <;> rfl
  · rw [if_neg h, if_neg h, ← Heap.get_sl]
theorem Heap.get_set (H : Heap) (id : Nat) (o : AO) (j : Nat) : (H.set id o).get j = if j = id then (if H.slot id then some o else none) else H.get j := Heap.get_put _ _ _ _
theorem Heap.sl_push (H : Heap) (o : AO) (j : Nat) : (H.push o).sl j = if j = H.len then some (some o) else H.sl j := by
  cases H with
  | mk n l =>
    show (if j < n + 1 then (some o :: l)[n + 1 - (j + 1)]? else none) = if j = n then some (some o) else if j < n then l[n - (j + 1)]? else none
    by_cases h : j = n
    · subst h; simp
    · rw [if_neg h]
      by_cases h2 : j < n
      · rw [if_pos (by omega), if_pos h2, show n + 1 - (j + 1) = (n - (j + 1)) + 1 from by omega]; rfl
      · rw [if_neg (by omega), if_neg h2]
theorem Heap.get_push (H : Heap) (o : AO) (j : Nat) : (H.push o).get j = if j = H.len then some o else H.get j := by
  rw [Heap.get_sl, Heap.sl_push]
  by_cases h : j = H.len
  · rw [if_pos h, if_pos h]; rfl
  · rw [if_neg h, if_neg h, ← Heap.get_sl]
theorem Heap.sl_trunc (H : Heap) (n : Nat) (hn : n ≤ H.len) (j : Nat) : (H.trunc n).sl j = if j < n then H.sl j else none := by
  cases H with
  | mk m l =>
    show (if j < n then (dropN (m - n) l)[n - (j + 1)]? else none) = if j < n then (if j < m then l[m - (j + 1)]? else none) else none
    simp only [Heap.len] at hn
    by_cases h : j < n
    · rw [if_pos h, if_pos h, if_pos (by omega), dropN_eq, List.getElem?_drop]; congr 1; omega
    · rw [if_neg h, if_neg h]
theorem Heap.get_trunc (H : Heap) (n : Nat) (hn : n ≤ H.len) (j : Nat) : (H.trunc n).get j = if j < n then H.get j else none := by
  rw [Heap.get_sl, Heap.sl_trunc _ _ hn, Heap.get_sl]
  split <;> rfl
theorem Heap.grow_succ (H : Heap) (k : Nat) : H.grow (k + 1) = match H.grow k with | .mk n l => .mk (n + 1) (none :: l) := rfl
theorem Heap.len_grow (H : Heap) (k : Nat) : (H.grow k).len = H.len + k := by
  induction k with
  | zero => rfl
  | succ k ih =>
    rw [Heap.grow_succ]
    cases h : H.grow k with
    | mk n l => rw [h, Heap.len_mk] at ih; show n + 1 = _; omega
theorem Heap.sl_grow (H : Heap) (k j : Nat) : (H.grow k).sl j = if j < H.len then H.sl j else if j < H.len + k then some none else none := by
  induction k with
  | zero =>
    show H.sl j = _
    by_cases h : j < H.len
    · rw [if_pos h]
    · rw [if_neg h, if_neg (by omega), Heap.sl_none (by omega)]
  | succ k ih =>
    rw [Heap.grow_succ]
    have hl := Heap.len_grow H k
    cases h : H.grow k with
    | mk n l =>
      rw [h] at ih hl
      rw [Heap.len_mk] at hl
      show (if j < n + 1 then (none :: l)[n + 1 - (j + 1)]? else none) = _
      have ih' : (if j < n then l[n - (j + 1)]? else none) = if j < H.len then H.sl j else if j < H.len + k then some none else none := ih
      by_cases e : j = n
      · subst e
        rw [if_pos (by omega), if_neg (by omega), if_pos (by omega)]; simp
      · by_cases h2 : j < n
        · rw [if_pos (by omega), show n + 1 - (j + 1) = (n - (j + 1)) + 1 from by omega]
          rw [if_pos h2] at ih'
          show l[n - (j + 1)]? = _
          rw [ih']
          by_cases h3 : j < H.len
          · rw [if_pos h3, if_pos h3]
          · rw [if_neg h3, if_neg h3, if_pos (by omega), if_pos (by omega)]
        · rw [if_neg (by omega), if_neg (by omega), if_neg (by omega)]
theorem Heap.get_grow (H : Heap) (k j : Nat) : (H.grow k).get j = H.get j := by
  rw [Heap.get_sl, Heap.sl_grow, Heap.get_sl]
  by_cases h : j < H.len
  · rw [if_pos h]
  · rw [if_neg h, Heap.sl_none (by omega)]
    split <;> rfl
theorem setS_eq {α β : Type} (xs : List α) : ∀ (n : Nat) (v : α) (k : List α → β), setS xs n v k = k (setN xs n v) := by
  induction xs with
  | nil => intro n v k; rfl
  | cons x xs ih =>
    intro n v k
    cases n with
    | zero => rfl
    | succ n => exact ih n v _
theorem Heap.setK_eq {β : Type} (H : Heap) (id : Nat) (o : AO) (k : Heap → β) : H.setK id o k = k (H.set id o) := by
  cases H with
  | mk n l =>
    unfold Heap.setK Heap.set Heap.put
    simp only [blt_cnd, setS_eq]
    split <;> rfl
theorem Heap.put_put (H : Heap) (i : Nat) (a b : Option AO) : (H.put i a).put i b = H.put i b := by
  cases H with
  | mk n l =>
    unfold Heap.put
    simp only [blt_cnd]
    by_cases h : i < n
    · simp only [if_pos h, setN_eq, List.set_set]
    · simp only [if_neg h]
theorem Heap.put_comm (H : Heap) {i j : Nat} (a b : Option AO) (h : i ≠ j) : (H.put i a).put j b = (H.put j b).put i a := by
  cases H with
  | mk n l =>
    unfold Heap.put
    simp only [blt_cnd]
    by_cases h1 : i < n <;> by_cases h2 : j < n
    · simp only [if_pos h1, if_pos h2, setN_eq]
      have : Heap.at n i ≠ Heap.at n j := by
        show n - (i + 1) ≠ n - (j + 1); omega
      rw [List.set_comm _ _ this]
    all_goals simp only [h1, h2, if_true, if_false]
theorem Heap.put_same {H : Heap} {i : Nat} {a : Option AO} (h : H.sl i = some a) : H.put i a = H := by
  cases H with
  | mk n l =>
    unfold Heap.put
    simp only [blt_cnd]
    by_cases h1 : i < n
    · rw [if_pos h1, setN_eq]
      rw [Heap.sl_mk, if_pos h1] at h
      obtain ⟨h2, h3⟩ := List.getElem?_eq_some_iff.1 h
      show Heap.mk n (l.set (n - (i + 1)) a) = _
      rw [← h3, List.set_getElem_self]
    · rw [if_neg h1]

end Go.Proofs.YtobejienmopklaaGreatDoor.Ev

/- What the abstract values stand for in a world. -/
namespace Go.Proofs.YtobejienmopklaaGreatDoor.Ev

/-- where objects stand, and which blocks are kept for others -/
structure Rho where
  loc : Nat → Nat × Nat
  res : Nat → Prop
instance : CoeFun Rho (fun _ => Nat → Nat × Nat) := ⟨Rho.loc⟩
def Held (ρ : Rho) (H : Heap) (b : Nat) : Prop := ∃ id o, H.get id = some o ∧ o ≠ .dead ∧ (ρ id).1 = b
def Owned (ρ : Rho) (H : Heap) (b : Nat) : Prop := ρ.res b ∨ Held ρ H b

/-- all references in it are among S; what can't be changed any more holds none -/
inductive RB : (Nat → Prop) → AV → Prop where
  | int {S : Nat → Prop} (k i) : RB S (.int k i)
  | bool {S : Nat → Prop} (b) : RB S (.bool b)
  | str {S : Nat → Prop} (s) : RB S (.str s)
  | nilp {S : Nat → Prop} : RB S .nilp
  | ref {S : Nat → Prop} (id off) : S id → RB S (.ref id off)
  | iptr {S : Nat → Prop} (cells) : (∀ (j : Nat) a, cells[j]? = some a → RB (fun _ => False) a) → RB S (.iptr cells)
  | slc {S : Nat → Prop} (id off len sz clip) : S id → RB S (.slc id off len sz clip)
  | sl {S : Nat → Prop} (clip sz elems) : (∀ (i : Nat) e (j : Nat) a, elems[i]? = some e → e[j]? = some a → RB (fun _ => False) a) → RB S (.sl clip sz elems)
  | mref {S : Nat → Prop} (id) : S id → RB S (.mref id)
  | nilm {S : Nat → Prop} : RB S .nilm
  | fn {S : Nat → Prop} (f first cap) : (∀ (j : Nat) a, first[j]? = some a → RB S a) → (∀ (j : Nat) a, cap[j]? = some a → RB S a) → RB S (.fn f first cap)
  | nilf {S : Nat → Prop} : RB S .nilf
  | iface {S : Nat → Prop} (t v) : RB S v → RB S (.iface t v)
  | nili {S : Nat → Prop} : RB S .nili
  | agg {S : Nat → Prop} (cells) : (∀ (j : Nat) a, cells[j]? = some a → RB S a) → RB S (.agg cells)
  | tup {S : Nat → Prop} (vs) : (∀ (j : Nat) a, vs[j]? = some a → RB S a) → RB S (.tup vs)

theorem RB.mono {S S' : Nat → Prop} (h : ∀ i, S i → S' i) {a : AV} (r : RB S a) : RB S' a := by
  induction r generalizing S' with
  | int | bool | str | nilp | nilm | nilf | nili => constructor
  | ref id off hi => exact .ref _ _ (h _ hi)
  | iptr cells hc _ => exact .iptr _ hc
  | slc id off len sz clip hi => exact .slc _ _ _ _ _ (h _ hi)
  | sl clip sz elems he _ => exact .sl _ _ _ he
  | mref id hi => exact .mref _ (h _ hi)
  | fn f first cap _ _ ih1 ih2 => exact .fn _ _ _ (fun j a ha => ih1 j a ha h) (fun j a ha => ih2 j a ha h)
  | iface t v _ ih => exact .iface _ _ (ih h)
  | agg cells _ ih => exact .agg _ (fun j a ha => ih j a ha h)
  | tup vs _ ih => exact .tup _ (fun j a ha => ih j a ha h)
theorem RB.none {S : Nat → Prop} {a : AV} (r : RB (fun _ => False) a) : RB S a := r.mono fun _ h => h.elim

inductive AVR (ρ : Rho) (H : Heap) (w : World) : AV → Value → Prop where
  | int (k n) : AVR ρ H w (.int k n) (.int k n)
  | bool (b) : AVR ρ H w (.bool b) (.bool b)
  | str (s b) : bytes b = s → AVR ρ H w (.str s) (.string b)
  | nilp : AVR ρ H w .nilp (.pointer none)
  | ref (id off p) : H.has id → p = ⟨(ρ id).1, (ρ id).2 + off, none⟩ → AVR ρ H w (.ref id off) (.pointer (some p))
  | iptr (cells b o) (us : Nat → Value) : ¬ Owned ρ H b → b < w.heap.size → (∀ (j : Nat) a, cells[j]? = some a → w.cell? ⟨b, o + j, none⟩ = some (us j)) →
      (∀ (j : Nat) a, cells[j]? = some a → RB (fun _ => False) a) → (∀ (j : Nat) a, cells[j]? = some a → AVR ρ H w a (us j)) → AVR ρ H w (.iptr cells) (.pointer (some ⟨b, o, none⟩))
  | slc (id off len sz clip A c) : H.has id → len ≤ c → (clip = true → c = len) → A.isSome = true ∧ (0 < c → A = some ⟨(ρ id).1, (ρ id).2 + off, none⟩) →
      (∀ e ex wc fz cs, H.get id = some (.row e ex wc fz cs) → ∃ carr e' fr, w.heap[(ρ id).1]? = some (.cells carr e' fr) ∧ (ρ id).2 + off + c * sz ≤ carr.size) →
      AVR ρ H w (.slc id off len sz clip) (.slice A len c)
  | sl (clip sz elems A c b o) (us : Nat → Nat → Value) : elems.length ≤ c → (clip = true → c = elems.length) ∧ (sz = 0 → A = none) ∧ (sz ≠ 0 → A.isSome = true) → (∀ (i : Nat) e, elems[i]? = some e → e.length = sz) →
      (elems ≠ [] → A = some ⟨b, o, none⟩ ∧ ¬ Owned ρ H b ∧ b < w.heap.size) →
      (∀ (i : Nat) e (j : Nat) a, elems[i]? = some e → e[j]? = some a → w.cell? ⟨b, o + i * sz + j, none⟩ = some (us i j)) →
      (∀ (i : Nat) e (j : Nat) a, elems[i]? = some e → e[j]? = some a → RB (fun _ => False) a) →
      (∀ (i : Nat) e (j : Nat) a, elems[i]? = some e → e[j]? = some a → AVR ρ H w a (us i j)) → AVR ρ H w (.sl clip sz elems) (.slice A elems.length c)
  | mref (id r) : H.has id → (∀ wc es cl, H.get id = some (.map wc es cl) → r = (ρ id).1) → AVR ρ H w (.mref id) (.map (some r))
  | nilm : AVR ρ H w .nilm (.map none)
  | fn (f first cap fs cs) : fs.size = first.length → cs.size = cap.length → (∀ (j : Nat) a v, first[j]? = some a → fs[j]? = some v → AVR ρ H w a v) →
      (∀ (j : Nat) a v, cap[j]? = some a → cs[j]? = some v → AVR ρ H w a v) → AVR ρ H w (.fn f first cap) (.func (.func f) fs cs)
  | nilf : AVR ρ H w .nilf .nilFunc
  | iface (t a v) : AVR ρ H w a v → AVR ρ H w (.iface t a) (.iface t v)
  | nili : AVR ρ H w .nili .nilIface
  | agg (cells vs) : vs.size = cells.length → (∀ (j : Nat) a v, cells[j]? = some a → vs[j]? = some v → AVR ρ H w a v) → AVR ρ H w (.agg cells) (.agg vs)
  | tup (cells vs) : vs.size = cells.length → (∀ (j : Nat) a v, cells[j]? = some a → vs[j]? = some v → AVR ρ H w a v) → AVR ρ H w (.tup cells) (.tuple vs)

theorem AVR.undef {ρ : Rho} {H : Heap} {w : World} : AVR ρ H w .undef Go.undef := .tup _ _ rfl (by simp)

theorem AVR.rb {ρ : Rho} {H : Heap} {w : World} {a : AV} {v : Value} (h : AVR ρ H w a v) : RB H.has a := by
  induction h with
  | int | bool | nilp | nilm | nilf | nili => constructor
  | str s b hb => exact .str _
  | ref id off p hi => exact .ref _ _ hi
  | iptr cells b o us _ _ _ hr _ _ => exact .iptr _ hr
  | slc id off len sz clip A c hi => exact .slc _ _ _ _ _ hi
  | sl clip sz elems A c b o us _ _ _ _ _ hr _ _ => exact .sl _ _ _ hr
  | mref id r hi => exact .mref _ hi
  | fn f first cap fs cs h1 h2 _ _ ih1 ih2 =>
    refine .fn _ _ _ (fun j a ha => ?_) (fun j a ha => ?_)
    · have hj : j < fs.size := by rw [h1]; exact (List.getElem?_eq_some_iff.1 ha).1
      exact ih1 j a fs[j] ha (by simp [hj])
    · have hj : j < cs.size := by rw [h2]; exact (List.getElem?_eq_some_iff.1 ha).1
      exact ih2 j a cs[j] ha (by simp [hj])
  | iface t a v _ ih => exact .iface _ _ ih
  | agg cells vs h1 _ ih =>
    refine .agg _ (fun j a ha => ?_)
    have hj : j < vs.size := by rw [h1]; exact (List.getElem?_eq_some_iff.1 ha).1
    exact ih j a vs[j] ha (by simp [hj])
  | tup cells vs h1 _ ih =>
    refine .tup _ (fun j a ha => ?_)
    have hj : j < vs.size := by rw [h1]; exact (List.getElem?_eq_some_iff.1 ha).1
    exact ih j a vs[j] ha (by simp [hj])

/-- an object and what became of it: the same, if the counter is the same -/
def wle : AO → AO → Prop
  | .row e ex wc fz cs, .row e' ex' wc' fz' cs' => wc ≤ wc' ∧ (wc = wc' → e = e' ∧ ex = ex' ∧ fz = fz' ∧ cs = cs')
  | .map wc es cl, .map wc' es' cl' => wc ≤ wc' ∧ (wc = wc' → es = es' ∧ cl = cl')
  | .dead, .dead => True
  | .row _ _ _ _ _, .dead => True
  | .map _ _ _, .dead => True
  | _, _ => False
theorem wle.refl (o : AO) : wle o o := by cases o <;> simp [wle]
theorem wle.trans {a b c : AO} (h : wle a b) (k : wle b c) : wle a c := by
  cases a <;> cases b <;> cases c <;> simp only [wle] at * <;> try trivial
  · refine ⟨Nat.le_trans h.1 k.1, fun e => ?_⟩
    have e1 := h.1; have e2 := k.1
    obtain ⟨a1, a2, a3, a4⟩ := h.2 (by omega)
    obtain ⟨b1, b2, b3, b4⟩ := k.2 (by omega)
    exact ⟨a1.trans b1, a2.trans b2, a3.trans b3, a4.trans b4⟩
  · refine ⟨Nat.le_trans h.1 k.1, fun e => ?_⟩
    have e1 := h.1; have e2 := k.1
    obtain ⟨a1, a2⟩ := h.2 (by omega)
    obtain ⟨b1, b2⟩ := k.2 (by omega)
    exact ⟨a1.trans b1, a2.trans b2⟩

/-- kinds of objects -/
def sameKind : AO → AO → Prop
  | .row _ _ _ _ _, .row _ _ _ _ _ => True
  | .map _ _ _, .map _ _ _ => True
  | _, _ => False

/-- From one state to another one: what was known of values with references below n is still so. -/
structure Tra0 (S : Nat → Prop) (ρ : Rho) (H : Heap) (w : World) (ρ' : Rho) (H' : Heap) (w' : World) : Prop where
  len : ∀ id, S id → H'.has id
  rho : ∀ id, S id → ρ' id = ρ id
  live : ∀ id o', S id → H'.get id = some o' → o' ≠ .dead → ∃ o, H.get id = some o ∧ sameKind o o'
  unown : ∀ b, b < w.heap.size → ¬ Owned ρ H b → ¬ Owned ρ' H' b
  keep : ∀ b, b < w.heap.size → ¬ Owned ρ H b → w'.heap[b]? = w.heap[b]?
  size : ∀ (b : Nat) carr e fr, w.heap[b]? = some (.cells carr e fr) → ∃ carr' fr', w'.heap[b]? = some (.cells carr' e fr') ∧ carr'.size = carr.size
  grow : w.heap.size ≤ w'.heap.size
  os : w'.os = w.os
  tape : w'.tape = w.tape
  output : w'.output = w.output

structure Tra (S : Nat → Prop) (ρ : Rho) (H : Heap) (w : World) (ρ' : Rho) (H' : Heap) (w' : World) : Prop extends Tra0 S ρ H w ρ' H' w' where
  res : ρ'.res = ρ.res
  resk : ∀ b, ρ.res b → w'.heap[b]? = w.heap[b]?

theorem cell?_of_heap {w w' : World} {a : Addr} (h : w'.heap[a.block]? = w.heap[a.block]?) : w'.cell? a = w.cell? a := by
  unfold World.cell?; rw [h]

theorem AVR.tra0 {S : Nat → Prop} {ρ ρ' : Rho} {H H' : Heap} {w w' : World} (T : Tra0 S ρ H w ρ' H' w') {a : AV} {v : Value}
    (h : AVR ρ H w a v) : RB S a → AVR ρ' H' w' a v := by
  induction h with
  | int | bool | nilp | nilm | nilf | nili => intro _; constructor
  | str s b hb => intro _; exact .str _ _ hb
  | ref id off p hi hp =>
    intro r
    cases r with
    | ref _ _ hr => exact .ref _ _ _ (T.len _ hr) (by rw [T.rho id hr]; exact hp)
  | iptr cells b o us ho hb hc hr _ ih =>
    intro r
    exact .iptr _ _ _ us (T.unown b hb ho) (Nat.lt_of_lt_of_le hb T.grow) (fun j a ha => by rw [cell?_of_heap (T.keep b hb ho)]; exact hc j a ha) hr
      (fun j a ha => ih j a ha (hr j a ha).none)
  | slc id off len sz clip A c hi hlc hcl hA hp =>
    intro r
    cases r with
    | slc _ _ _ _ _ hr =>
      refine .slc _ _ _ _ _ _ _ (T.len _ hr) hlc hcl (by rw [T.rho id hr]; exact hA) fun e ex wc fz cs hg => ?_
      obtain ⟨o, ho, hk⟩ := T.live id _ hr hg (by simp)
      cases o with
      | row e1 ex1 wc1 fz1 cs1 =>
        rw [T.rho id hr]
        obtain ⟨carr, e', fr, h2, h3⟩ := hp _ _ _ _ _ ho
        obtain ⟨carr', fr', h4, h5⟩ := T.size _ _ _ _ h2
        exact ⟨carr', e', fr', h4, by omega⟩
      | map => exact hk.elim
      | dead => exact hk.elim
  | sl clip sz elems A c b o us hl hcl hsz hA hc hr _ ih =>
    intro r
    refine .sl _ _ _ _ _ b o us hl hcl hsz (fun he => ?_) (fun i e j a he ha => ?_) hr (fun i e j a he ha => ih i e j a he ha (hr i e j a he ha).none)
    · obtain ⟨h1, h2, h3⟩ := hA he
      exact ⟨h1, T.unown b h3 h2, Nat.lt_of_lt_of_le h3 T.grow⟩
    · obtain ⟨h1, h2, h3⟩ := hA (by intro h0; subst h0; simp at he)
      rw [cell?_of_heap (T.keep b h3 h2)]; exact hc i e j a he ha
  | mref id rr hi hp =>
    intro r
    cases r with
    | mref _ hr =>
      refine .mref _ _ (T.len _ hr) fun wc es cl hg => ?_
      obtain ⟨o, ho, hk⟩ := T.live id _ hr hg (by simp)
      cases o with
      | row => exact hk.elim
      | map wc1 es1 cl1 => rw [T.rho id hr]; exact hp _ _ _ ho
      | dead => exact hk.elim
  | fn f first cap fs cs h1 h2 _ _ ih1 ih2 =>
    intro r
    cases r with
    | fn _ _ _ r1 r2 => exact .fn _ _ _ _ _ h1 h2 (fun j a v ha hv => ih1 j a v ha hv (r1 j a ha)) (fun j a v ha hv => ih2 j a v ha hv (r2 j a ha))
  | iface t a v _ ih =>
    intro r
    cases r with
    | iface _ _ r1 => exact .iface _ _ _ (ih r1)
  | agg cells vs h1 _ ih =>
    intro r
    cases r with
    | agg _ r1 => exact .agg _ _ h1 (fun j a v ha hv => ih j a v ha hv (r1 j a ha))
  | tup cells vs h1 _ ih =>
    intro r
    cases r with
    | tup _ r1 => exact .tup _ _ h1 (fun j a v ha hv => ih j a v ha hv (r1 j a ha))

theorem AVR.tra {S : Nat → Prop} {ρ ρ' : Rho} {H H' : Heap} {w w' : World} (T : Tra S ρ H w ρ' H' w') {a : AV} {v : Value} (h : AVR ρ H w a v) (r : RB S a) : AVR ρ' H' w' a v := h.tra0 T.toTra0 r
theorem AVR.mono {ρ ρ' : Rho} {H H' : Heap} {w w' : World} (T : Tra H.has ρ H w ρ' H' w') {a : AV} {v : Value} (h : AVR ρ H w a v) : AVR ρ' H' w' a v :=
  h.tra T h.rb

/-- The heap's objects stand in the world. -/
structure HR (ρ : Rho) (H : Heap) (w : World) : Prop where
  row : ∀ id e ex wc fz cs, H.get id = some (.row e ex wc fz cs) → ∃ carr lo hi, w.heap[(ρ id).1]? = some (.cells carr e (lo, hi)) ∧
    (ρ id).2 + cs.length ≤ carr.size ∧ (ex = true → (ρ id).2 = 0 ∧ carr.size = cs.length) ∧ hi ≤ (ρ id).2 + fz ∧
    ∀ (j : Nat) a, cs[j]? = some a → ∃ v, carr[(ρ id).2 + j]? = some v ∧ AVR ρ H w a v
  map : ∀ id wc es cl, H.get id = some (.map wc es cl) → ∃ ces, w.heap[(ρ id).1]? = some (.map ces cl) ∧ ces.size = es.length ∧
    ∀ (j : Nat) k v b, es[j]? = some (k, v, b) → ∃ e, ces[j]? = some e ∧ AVR ρ H w k e.key ∧ AVR ρ H w v e.val ∧ e.born = b
  inj : ∀ id id' o o', H.get id = some o → o ≠ .dead → H.get id' = some o' → o' ≠ .dead → (ρ id).1 = (ρ id').1 → id = id'
  res : ∀ b, ρ.res b → b < w.heap.size
  apart : ∀ id o, H.get id = some o → o ≠ .dead → ¬ ρ.res (ρ id).1

theorem HR.lt {ρ : Rho} {H : Heap} {w : World} (h : HR ρ H w) {id : Nat} {o : AO} (hg : H.get id = some o) (ho : o ≠ .dead) : (ρ id).1 < w.heap.size := by
  cases o with
  | row e ex wc fz cs =>
    obtain ⟨carr, lo, hi, h1, _⟩ := h.row _ _ _ _ _ _ hg
    exact (Array.getElem?_eq_some_iff.1 h1).1
  | map wc es cl =>
    obtain ⟨ces, h1, _⟩ := h.map _ _ _ _ hg
    exact (Array.getElem?_eq_some_iff.1 h1).1
  | dead => exact absurd rfl ho

theorem sameKind.refl {o : AO} (h : o ≠ .dead) : sameKind o o := by cases o <;> first | trivial | exact absurd rfl h
theorem sameKind.trans {a b c : AO} (h : sameKind a b) (k : sameKind b c) : sameKind a c := by cases a <;> cases b <;> cases c <;> simp_all [sameKind]
theorem sameKind.left {a b : AO} (h : sameKind a b) : a ≠ .dead := by cases a <;> cases b <;> simp_all [sameKind]

theorem Tra.refl (ρ : Rho) (H : Heap) (w : World) : Tra H.has ρ H w ρ H w :=
  ⟨⟨fun _ h => h, fun _ _ => rfl, fun _ o _ h hd => ⟨o, h, .refl hd⟩, fun _ _ h => h, fun _ _ _ => rfl, fun _ carr _ fr h => ⟨carr, fr, h, rfl⟩, Nat.le_refl _, rfl, rfl, rfl⟩, rfl, fun _ _ => rfl⟩

theorem Tra.trans {S S' : Nat → Prop} {ρ ρ1 ρ2 : Rho} {H H1 H2 : Heap} {w w1 w2 : World} (T : Tra S ρ H w ρ1 H1 w1) (U : Tra S' ρ1 H1 w1 ρ2 H2 w2) (hS : ∀ i, S i → S' i) :
    Tra S ρ H w ρ2 H2 w2 where
  len id h := U.len id (hS id h)
  rho id h := (U.rho id (hS id h)).trans (T.rho id h)
  live id o' h hg hd := by
    obtain ⟨o1, h1, k1⟩ := U.live id o' (hS id h) hg hd
    obtain ⟨o, h2, k2⟩ := T.live id o1 h h1 k1.left
    exact ⟨o, h2, k2.trans k1⟩
  unown b hb ho := U.unown b (Nat.lt_of_lt_of_le hb T.grow) (T.unown b hb ho)
  keep b hb ho := (U.keep b (Nat.lt_of_lt_of_le hb T.grow) (T.unown b hb ho)).trans (T.keep b hb ho)
  size b carr e fr h := by
    obtain ⟨c1, f1, h1, s1⟩ := T.size b carr e fr h
    obtain ⟨c2, f2, h2, s2⟩ := U.size b c1 e f1 h1
    exact ⟨c2, f2, h2, s2.trans s1⟩
  grow := Nat.le_trans T.grow U.grow
  os := U.os.trans T.os
  tape := U.tape.trans T.tape
  output := U.output.trans T.output
  res := U.res.trans T.res
  resk b h := (U.resk b (by rw [T.res]; exact h)).trans (T.resk b h)

/-- The references that an object holds are among S. -/
def ORB (S : Nat → Prop) : AO → Prop
  | .row _ _ _ _ cs => ∀ (j : Nat) a, cs[j]? = some a → RB S a
  | .map _ es _ => ∀ (j : Nat) k v b, es[j]? = some (k, v, b) → RB S k ∧ RB S v
  | .dead => True

theorem HR.orb {ρ : Rho} {H : Heap} {w : World} (h : HR ρ H w) {id : Nat} {o : AO} (hg : H.get id = some o) : ORB H.has o := by
  cases o with
  | row e ex wc fz cs =>
    intro j a ha
    obtain ⟨carr, lo, hi, _, _, _, _, h2⟩ := h.row _ _ _ _ _ _ hg
    obtain ⟨v, _, h3⟩ := h2 j a ha
    exact h3.rb
  | map wc es cl =>
    intro j k v b hb
    obtain ⟨ces, _, _, h2⟩ := h.map _ _ _ _ hg
    obtain ⟨e, _, h3, h4, _⟩ := h2 j k v b hb
    exact ⟨h3.rb, h4.rb⟩
  | dead => trivial

/-- What `low` tells: below every n that it is not below, objects hold references below n alone, if they did. -/
def Low (m : Nat) (H : Heap) (low : Nat) (H' : Heap) (low' : Nat) : Prop :=
  low' ≤ low ∧ ∀ n, n ≤ low' → n ≤ m → (∀ id o, id < n → H.get id = some o → ORB (· < n) o) → ∀ id o, id < n → H'.get id = some o → ORB (· < n) o

theorem Low.refl (m : Nat) (H : Heap) (low : Nat) : Low m H low H low := ⟨Nat.le_refl _, fun _ _ _ h => h⟩
theorem Low.trans {m : Nat} {H H1 H2 : Heap} {l l1 l2 : Nat} (h : Low m H l H1 l1) (k : Low m H1 l1 H2 l2) : Low m H l H2 l2 :=
  ⟨Nat.le_trans k.1 h.1, fun n h1 h2 h3 => k.2 n h1 h2 (h.2 n (Nat.le_trans h1 k.1) h2 h3)⟩
theorem Low.mono {m m' : Nat} {H H1 : Heap} {l l1 : Nat} (h : Low m H l H1 l1) (hm : m' ≤ m) : Low m' H l H1 l1 := ⟨h.1, fun n h1 h2 h3 => h.2 n h1 (Nat.le_trans h2 hm) h3⟩

theorem Tra.weaken {S S' : Nat → Prop} {ρ ρ' : Rho} {H H' : Heap} {w w' : World} (T : Tra S ρ H w ρ' H' w') (h : ∀ i, S' i → S i) : Tra S' ρ H w ρ' H' w' :=
  ⟨⟨fun i hi => T.len i (h i hi), fun i hi => T.rho i (h i hi), fun i o hi => T.live i o (h i hi), T.unown, T.keep, T.size, T.grow, T.os, T.tape, T.output⟩, T.res, T.resk⟩

/-- One state to the next. -/
structure StpS (S : Nat → Prop) (m : Nat) (ρ : Rho) (H : Heap) (low : Nat) (w : World) (ρ' : Rho) (H' : Heap) (low' : Nat) (w' : World) : Prop where
  tra : Tra S ρ H w ρ' H' w'
  hr : HR ρ' H' w'
  low : Low m H low H' low'
  len : H.len ≤ H'.len
  wle : ∀ id o, H.get id = some o → ∃ o', H'.get id = some o' ∧ wle o o'
  hole : ∀ id, id < m → H.hole id → H'.hole id
abbrev Stp (ρ : Rho) (H : Heap) (low : Nat) (w : World) (ρ' : Rho) (H' : Heap) (low' : Nat) (w' : World) : Prop := StpS H.has H.len ρ H low w ρ' H' low' w'

theorem Stp.refl {ρ : Rho} {H : Heap} {low : Nat} {w : World} (h : HR ρ H w) : Stp ρ H low w ρ H low w := ⟨.refl _ _ _, h, .refl _ _ _, Nat.le_refl _, fun _ o h => ⟨o, h, .refl o⟩, fun _ _ h => h⟩
theorem StpS.trans {S S' : Nat → Prop} {m m' : Nat} {ρ ρ1 ρ2 : Rho} {H H1 H2 : Heap} {l l1 l2 : Nat} {w w1 w2 : World} (a : StpS S m ρ H l w ρ1 H1 l1 w1)
    (b : StpS S' m' ρ1 H1 l1 w1 ρ2 H2 l2 w2) (hS : ∀ i, S i → S' i) (hm : m ≤ m') : StpS S m ρ H l w ρ2 H2 l2 w2 :=
  ⟨a.tra.trans b.tra hS, b.hr, a.low.trans (b.low.mono hm), Nat.le_trans a.len b.len, fun id o h => by
    obtain ⟨o1, h1, k1⟩ := a.wle id o h
    obtain ⟨o2, h2, k2⟩ := b.wle id o1 h1
    exact ⟨o2, h2, k1.trans k2⟩, fun id hi h => b.hole id (Nat.lt_of_lt_of_le hi hm) (a.hole id hi h)⟩
theorem Stp.trans {ρ ρ1 ρ2 : Rho} {H H1 H2 : Heap} {l l1 l2 : Nat} {w w1 w2 : World} (a : Stp ρ H l w ρ1 H1 l1 w1) (b : Stp ρ1 H1 l1 w1 ρ2 H2 l2 w2) :
    Stp ρ H l w ρ2 H2 l2 w2 := StpS.trans a b (fun id h => a.tra.len id h) a.len
theorem StpS.weaken {S S' : Nat → Prop} {m m' : Nat} {ρ ρ' : Rho} {H H' : Heap} {l l' : Nat} {w w' : World} (a : StpS S m ρ H l w ρ' H' l' w') (h : ∀ i, S' i → S i) (hm : m' ≤ m) :
    StpS S' m' ρ H l w ρ' H' l' w' := ⟨a.tra.weaken h, a.hr, a.low.mono hm, a.len, a.wle, fun id hi => a.hole id (Nat.lt_of_lt_of_le hi hm)⟩

end Go.Proofs.YtobejienmopklaaGreatDoor.Ev

/- Steps of the heap: a row is written, a new object, one that is let go. -/
namespace Go.Proofs.YtobejienmopklaaGreatDoor.Ev

theorem Heap.set_set (H : Heap) (i : Nat) (a b : AO) : (H.set i a).set i b = H.set i b := Heap.put_put _ _ _ _
theorem Heap.has_set {H : Heap} {i j : Nat} {a : AO} (h : H.has j) : (H.set i a).has j := by
  obtain ⟨o, ho⟩ := h
  unfold Heap.has
  rw [Heap.get_set]
  by_cases e : j = i
  · subst e; rw [if_pos rfl, if_pos (Heap.slot_of_get ho)]; exact ⟨_, rfl⟩
  · rw [if_neg e]; exact ⟨o, ho⟩
theorem Heap.hole_set {H : Heap} {i j : Nat} {a o : AO} (hg : H.get i = some o) (h : H.hole j) : (H.set i a).hole j := by
  unfold Heap.hole
  rw [Heap.sl_set, if_neg (fun e => by subst e; rw [Heap.get_hole h] at hg; cases hg)]; exact h

/-- what a world keeps from another one -/
structure Same (w w' : World) : Prop where
  os : w'.os = w.os
  tape : w'.tape = w.tape
  output : w'.output = w.output

theorem HR.bad {ρ : Rho} {H : Heap} {w : World} (h : HR ρ H w) {id b : Nat} {o : AO} (hg : H.get id = some o) (ho : o ≠ .dead) (hb : ρ.res b) : b ≠ (ρ id).1 := fun e => h.apart id o hg ho (e ▸ hb)
theorem owned_set {ρ : Rho} {H : Heap} {id : Nat} {o o' : AO} (hg : H.get id = some o) (hk : sameKind o o') (b : Nat) :
    Owned ρ (H.set id o') b ↔ Owned ρ H b := by
  have hlt := Heap.slot_of_get hg
  have hd' : o' ≠ .dead := by cases o <;> cases o' <;> simp_all [sameKind]
  constructor
  · rintro (h | ⟨i, x, h1, h2, h3⟩)
    · exact .inl h
    rw [Heap.get_set] at h1
    by_cases e : i = id
    · subst e; exact .inr ⟨i, o, hg, hk.left, h3⟩
    · rw [if_neg e] at h1; exact .inr ⟨i, x, h1, h2, h3⟩
  · rintro (h | ⟨i, x, h1, h2, h3⟩)
    · exact .inl h
    by_cases e : i = id
    · subst e; exact .inr ⟨i, o', by rw [Heap.get_set, if_pos rfl, if_pos hlt], hd', h3⟩
    · exact .inr ⟨i, x, by rw [Heap.get_set, if_neg e]; exact h1, h2, h3⟩

theorem wle_set {H : Heap} {id : Nat} {o o' : AO} (hg : H.get id = some o) (hw : wle o o') : ∀ i x, H.get i = some x → ∃ y, (H.set id o').get i = some y ∧ wle x y := by
  intro i x hx
  rw [Heap.get_set]
  by_cases e : i = id
  · subst e; rw [if_pos rfl, if_pos (Heap.slot_of_get hg)]; rw [hg] at hx; cases hx; exact ⟨_, rfl, hw⟩
  · rw [if_neg e]; exact ⟨x, hx, .refl x⟩

/-- an object is changed, in place -/
theorem tra_set {ρ : Rho} {H : Heap} {w w' : World} {id : Nat} {o o' : AO} (hR : HR ρ H w) (hg : H.get id = some o) (hk : sameKind o o')
    (ho : ∀ b, b ≠ (ρ id).1 → w'.heap[b]? = w.heap[b]?)
    (hs : ∀ carr e fr, w.heap[(ρ id).1]? = some (.cells carr e fr) → ∃ carr' fr', w'.heap[(ρ id).1]? = some (.cells carr' e fr') ∧ carr'.size = carr.size)
    (hgrow : w.heap.size ≤ w'.heap.size) (hw : Same w w') : Tra H.has ρ H w ρ (H.set id o') w' where
  len _ h := Heap.has_set h
  rho _ _ := rfl
  live i x hi hx hd := by
    rw [Heap.get_set] at hx
    by_cases e : i = id
    · subst e
      rw [if_pos rfl, if_pos (Heap.slot_of_get hg)] at hx
      cases hx
      exact ⟨o, hg, hk⟩
    · rw [if_neg e] at hx; exact ⟨x, hx, .refl hd⟩
  unown b _ h := fun h' => h ((owned_set hg hk b).1 h')
  keep b _ h := ho b (fun e => h (.inr ⟨id, o, hg, hk.left, e.symm⟩))
  size b carr e fr h := by
    by_cases e : b = (ρ id).1
    · subst e; exact hs _ _ _ h
    · exact ⟨carr, fr, by rw [ho b e]; exact h, rfl⟩
  grow := hgrow
  os := hw.os
  tape := hw.tape
  output := hw.output
  res := rfl
  resk b hb := ho b (hR.bad hg hk.left hb)

/-- other objects stand as they did -/
theorem hr_row_other {ρ ρ' : Rho} {H H' : Heap} {w w' : World} (h : HR ρ H w) (T : Tra H.has ρ H w ρ' H' w') {id : Nat} {e ex wc fz cs}
    (hg : H.get id = some (.row e ex wc fz cs)) (hw : w'.heap[(ρ id).1]? = w.heap[(ρ id).1]?) :
    ∃ carr lo hi, w'.heap[(ρ' id).1]? = some (.cells carr e (lo, hi)) ∧ (ρ' id).2 + cs.length ≤ carr.size ∧ (ex = true → (ρ' id).2 = 0 ∧ carr.size = cs.length) ∧ hi ≤ (ρ' id).2 + fz ∧
    ∀ (j : Nat) a, cs[j]? = some a → ∃ v, carr[(ρ' id).2 + j]? = some v ∧ AVR ρ' H' w' a v := by
  obtain ⟨carr, lo, hi, h1, h2, h3, h4, h5⟩ := h.row _ _ _ _ _ _ hg
  rw [T.rho id ⟨_, hg⟩, hw]
  exact ⟨carr, lo, hi, h1, h2, h3, h4, fun j a ha => let ⟨v, hv, hr⟩ := h5 j a ha; ⟨v, hv, hr.mono T⟩⟩
theorem hr_map_other {ρ ρ' : Rho} {H H' : Heap} {w w' : World} (h : HR ρ H w) (T : Tra H.has ρ H w ρ' H' w') {id : Nat} {wc es cl}
    (hg : H.get id = some (.map wc es cl)) (hw : w'.heap[(ρ id).1]? = w.heap[(ρ id).1]?) :
    ∃ ces, w'.heap[(ρ' id).1]? = some (.map ces cl) ∧ ces.size = es.length ∧
    ∀ (j : Nat) k v b, es[j]? = some (k, v, b) → ∃ e, ces[j]? = some e ∧ AVR ρ' H' w' k e.key ∧ AVR ρ' H' w' v e.val ∧ e.born = b := by
  obtain ⟨ces, h1, h2, h3⟩ := h.map _ _ _ _ hg
  rw [T.rho id ⟨_, hg⟩, hw]
  exact ⟨ces, h1, h2, fun j k v b hb => let ⟨e, he, hk, hv, hn⟩ := h3 j k v b hb; ⟨e, he, hk.mono T, hv.mono T, hn⟩⟩

noncomputable def lowOf (rf : Bool) (id low : Nat) : Nat := cnd rf (cnd (Nat.blt id low) id low) low
theorem lowOf_le (rf : Bool) (id low : Nat) : lowOf rf id low ≤ low := by
  unfold lowOf
  cases rf
  · exact Nat.le_refl _
  · rw [cnd_true, cnd_eq]; split
    · rename_i h; simp [Nat.blt_eq] at h; omega
    · exact Nat.le_refl _
theorem lowOf_lt {id low n : Nat} (h : n ≤ lowOf true id low) : n ≤ id := by
  unfold lowOf at h
  rw [cnd_true, cnd_eq] at h
  split at h
  · exact h
  · rename_i h1; simp [Nat.blt_eq] at h1; omega

theorem low_set {H : Heap} {low id : Nat} {o o' : AO} {rf : Bool} (hg : H.get id = some o) (hrf : rf = false → ∀ n, ORB (· < n) o → ORB (· < n) o') :
    Low H.len H low (H.set id o') (lowOf rf id low) := by
  refine ⟨lowOf_le _ _ _, fun n hn hl hall i x hi hx => ?_⟩
  rw [Heap.get_set] at hx
  by_cases e : i = id
  · subst e
    rw [if_pos rfl] at hx
    rw [if_pos (Heap.slot_of_get hg)] at hx
    cases hx
    cases rf with
    | false => exact hrf rfl n (hall i o hi hg)
    | true => have := lowOf_lt hn; omega
  · rw [if_neg e] at hx; exact hall i x hi hx

/-- A row is written (it may grow into the block's spare room). -/
theorem stp_row {ρ : Rho} {H : Heap} {low : Nat} {w w' : World} {id : Nat} {e ex wc fz cs} (h : HR ρ H w) (hg : H.get id = some (.row e ex wc fz cs))
    {wc' fz' : Nat} {cs' : List AV} {carr' : Array Value} {lo' hi' : Nat} {rf : Bool} (hb : w'.heap[(ρ id).1]? = some (.cells carr' e (lo', hi')))
    (ho : ∀ b, b ≠ (ρ id).1 → w'.heap[b]? = w.heap[b]?) (hgrow : w.heap.size ≤ w'.heap.size) (hw : Same w w')
    (hs : ∀ carr e1 fr, w.heap[(ρ id).1]? = some (.cells carr e1 fr) → carr'.size = carr.size)
    (hl : (ρ id).2 + cs'.length ≤ carr'.size) (hex : ex = true → cs'.length = cs.length) (hfz : hi' ≤ (ρ id).2 + fz')
    (hc : ∀ (j : Nat) a, cs'[j]? = some a → ∃ v, carr'[(ρ id).2 + j]? = some v ∧ AVR ρ H w a v)
    (hrf : rf = false → ∀ n, (∀ (j : Nat) a, cs[j]? = some a → RB (· < n) a) → ∀ (j : Nat) a, cs'[j]? = some a → RB (· < n) a) (hwc : wc < wc') :
    Stp ρ H low w ρ (H.set id (.row e ex wc' fz' cs')) (lowOf rf id low) w' := by
  have T : Tra H.has ρ H w ρ (H.set id (.row e ex wc' fz' cs')) w' := tra_set h hg trivial ho (fun carr e1 fr h1 => by
    obtain ⟨c0, lo0, hi0, h2, _⟩ := h.row _ _ _ _ _ _ hg
    rw [h2] at h1; cases h1
    exact ⟨carr', _, hb, hs _ _ _ h2⟩) hgrow hw
  refine ⟨T, ⟨fun i e1 ex1 wc1 fz1 cs1 hi => ?_, fun i wc1 es cl hi => ?_, fun i i' o o' h1 h2 h3 h4 h5 => ?_, fun b hb => Nat.lt_of_lt_of_le (h.res b hb) hgrow, fun i o h1 h2 => ?_⟩, low_set hg hrf, by simp, wle_set hg (by simp only [wle]; omega), fun _ _ hh => Heap.hole_set hg hh⟩
  · have hi0 := hi
    rw [Heap.get_set] at hi
    by_cases e2 : i = id
    · subst e2
      rw [if_pos rfl, if_pos (Heap.slot_of_get hg)] at hi
      cases hi
      obtain ⟨c0, lo0, hi0, g1, g2, g3, _⟩ := h.row _ _ _ _ _ _ hg
      refine ⟨carr', lo', hi', hb, hl, fun hx => ?_, hfz, fun j a ha => ?_⟩
      · have := g3 hx; exact ⟨this.1, by rw [hs _ _ _ g1, this.2, hex hx]⟩
      · obtain ⟨v, hv, hr⟩ := hc j a ha; exact ⟨v, hv, hr.mono T⟩
    · rw [if_neg e2] at hi
      exact hr_row_other h T hi (ho _ (fun e3 => e2 (h.inj _ _ _ _ hi (by simp) hg (by simp) e3)))
  · rw [Heap.get_set] at hi
    by_cases e2 : i = id
    · subst e2; rw [if_pos rfl, if_pos (Heap.slot_of_get hg)] at hi; cases hi
    · rw [if_neg e2] at hi
      exact hr_map_other h T hi (ho _ (fun e3 => e2 (h.inj _ _ _ _ hi (by simp) hg (by simp) e3)))
  · have key : ∀ i o, (H.set id (.row e ex wc' fz' cs')).get i = some o → o ≠ .dead → ∃ o0, H.get i = some o0 ∧ o0 ≠ .dead := by
      intro i o g1 g2
      rw [Heap.get_set] at g1
      by_cases e2 : i = id
      · subst e2; exact ⟨_, hg, by simp⟩
      · rw [if_neg e2] at g1; exact ⟨o, g1, g2⟩
    obtain ⟨o0, k1, k2⟩ := key i o h1 h2
    obtain ⟨o1, k3, k4⟩ := key i' o' h3 h4
    exact h.inj _ _ _ _ k1 k2 k3 k4 h5
  · rw [Heap.get_set] at h1
    by_cases e2 : i = id
    · subst e2; exact h.apart _ _ hg (by simp)
    · rw [if_neg e2] at h1; exact h.apart _ _ h1 h2

/-- A map is written. -/
theorem stp_map {ρ : Rho} {H : Heap} {low : Nat} {w w' : World} {id : Nat} {wc es cl} (h : HR ρ H w) (hg : H.get id = some (.map wc es cl))
    {wc' cl' : Nat} {es' : List (AV × AV × Nat)} {ces' : Array MapEntry} {rf : Bool} (hb : w'.heap[(ρ id).1]? = some (.map ces' cl'))
    (ho : ∀ b, b ≠ (ρ id).1 → w'.heap[b]? = w.heap[b]?) (hgrow : w.heap.size ≤ w'.heap.size) (hw : Same w w')
    (hl : ces'.size = es'.length)
    (hc : ∀ (j : Nat) k v b, es'[j]? = some (k, v, b) → ∃ e, ces'[j]? = some e ∧ AVR ρ H w k e.key ∧ AVR ρ H w v e.val ∧ e.born = b)
    (hrf : rf = false → ∀ n, (∀ (j : Nat) k v b, es[j]? = some (k, v, b) → RB (· < n) k ∧ RB (· < n) v) → ∀ (j : Nat) k v b, es'[j]? = some (k, v, b) → RB (· < n) k ∧ RB (· < n) v) (hwc : wc < wc') :
    Stp ρ H low w ρ (H.set id (.map wc' es' cl')) (lowOf rf id low) w' := by
  have T : Tra H.has ρ H w ρ (H.set id (.map wc' es' cl')) w' := tra_set h hg trivial ho (fun carr e1 fr h1 => by
    obtain ⟨ces, h2, _⟩ := h.map _ _ _ _ hg
    rw [h2] at h1; cases h1) hgrow hw
  refine ⟨T, ⟨fun i e1 ex1 wc1 fz1 cs1 hi => ?_, fun i wc1 es1 cl1 hi => ?_, fun i i' o o' h1 h2 h3 h4 h5 => ?_, fun b hb => Nat.lt_of_lt_of_le (h.res b hb) hgrow, fun i o h1 h2 => ?_⟩, low_set hg hrf, by simp, wle_set hg (by simp only [wle]; omega), fun _ _ hh => Heap.hole_set hg hh⟩
  · rw [Heap.get_set] at hi
    by_cases e2 : i = id
    · subst e2; rw [if_pos rfl, if_pos (Heap.slot_of_get hg)] at hi; cases hi
    · rw [if_neg e2] at hi
      exact hr_row_other h T hi (ho _ (fun e3 => e2 (h.inj _ _ _ _ hi (by simp) hg (by simp) e3)))
  · rw [Heap.get_set] at hi
    by_cases e2 : i = id
    · subst e2
      rw [if_pos rfl, if_pos (Heap.slot_of_get hg)] at hi
      cases hi
      exact ⟨ces', hb, hl, fun j k v b hj => let ⟨e, g1, g2, g3, g4⟩ := hc j k v b hj; ⟨e, g1, g2.mono T, g3.mono T, g4⟩⟩
    · rw [if_neg e2] at hi
      exact hr_map_other h T hi (ho _ (fun e3 => e2 (h.inj _ _ _ _ hi (by simp) hg (by simp) e3)))
  · have key : ∀ i o, (H.set id (.map wc' es' cl')).get i = some o → o ≠ .dead → ∃ o0, H.get i = some o0 ∧ o0 ≠ .dead := by
      intro i o g1 g2
      rw [Heap.get_set] at g1
      by_cases e2 : i = id
      · subst e2; exact ⟨_, hg, by simp⟩
      · rw [if_neg e2] at g1; exact ⟨o, g1, g2⟩
    obtain ⟨o0, k1, k2⟩ := key i o h1 h2
    obtain ⟨o1, k3, k4⟩ := key i' o' h3 h4
    exact h.inj _ _ _ _ k1 k2 k3 k4 h5
  · rw [Heap.get_set] at h1
    by_cases e2 : i = id
    · subst e2; exact h.apart _ _ hg (by simp)
    · rw [if_neg e2] at h1; exact h.apart _ _ h1 h2

/-- An object is let go. -/
theorem stp_kill {ρ : Rho} {H : Heap} {low : Nat} {w : World} (id : Nat) (hid : H.has id) (h : HR ρ H w) : Stp ρ H low w ρ (H.set id .dead) low w := by
  have sub : ∀ i o, (H.set id .dead).get i = some o → o ≠ .dead → H.get i = some o ∧ i ≠ id := by
    intro i o g1 g2
    rw [Heap.get_set] at g1
    by_cases e2 : i = id
    · subst e2; rw [if_pos rfl] at g1; split at g1
      · cases g1; exact absurd rfl g2
      · cases g1
    · rw [if_neg e2] at g1; exact ⟨g1, e2⟩
  have T : Tra H.has ρ H w ρ (H.set id .dead) w :=
    ⟨⟨fun _ h => Heap.has_set h, fun _ _ => rfl, fun i o _ g1 g2 => ⟨o, (sub i o g1 g2).1, .refl g2⟩, fun b _ hb h => hb (h.imp (fun x => x) fun ⟨i, o, g1, g2, g3⟩ => ⟨i, o, (sub i o g1 g2).1, g2, g3⟩),
      fun _ _ _ => rfl, fun _ carr _ fr h1 => ⟨carr, fr, h1, rfl⟩, Nat.le_refl _, rfl, rfl, rfl⟩, rfl, fun _ _ => rfl⟩
  refine ⟨T, ⟨fun i e1 ex1 wc1 fz1 cs1 hi => ?_, fun i wc1 es1 cl1 hi => ?_, fun i i' o o' h1 h2 h3 h4 h5 => ?_, h.res, fun i o h1 h2 => h.apart i o (sub i o h1 h2).1 h2⟩, ⟨Nat.le_refl _, fun n _ _ hall i o hi ho => ?_⟩, by simp,
    hid.elim fun o ho => wle_set ho (by cases o <;> trivial), fun _ _ hh => hid.elim fun o ho => Heap.hole_set ho hh⟩
  · exact hr_row_other h T (sub _ _ hi (by simp)).1 rfl
  · exact hr_map_other h T (sub _ _ hi (by simp)).1 rfl
  · exact h.inj _ _ _ _ (sub _ _ h1 h2).1 h2 (sub _ _ h3 h4).1 h4 h5
  · by_cases hd : o = .dead
    · subst hd; trivial
    · exact hall i o hi (sub _ _ ho hd).1

def upd (ρ : Rho) (id : Nat) (p : Nat × Nat) : Rho := ⟨fun i => if i = id then p else ρ i, ρ.res⟩
@[simp] theorem upd_res (ρ : Rho) (id : Nat) (p : Nat × Nat) : (upd ρ id p).res = ρ.res := rfl
@[simp] theorem upd_same (ρ : Rho) (id : Nat) (p : Nat × Nat) : upd ρ id p id = p := by simp [upd]
theorem upd_other {ρ : Rho} {id : Nat} {p : Nat × Nat} {i : Nat} (h : i ≠ id) : upd ρ id p i = ρ i := by simp [upd, h]

structure Filled (H1 : Heap) (nid : Nat) (o : AO) (H' : Heap) : Prop where
  get : ∀ j, H'.get j = if j = nid then some o else H1.get j
  len : H1.len ≤ H'.len
  hole : ∀ j, j ≠ nid → H1.hole j → H'.hole j
theorem Filled.has {H1 : Heap} {nid : Nat} {o : AO} {H' : Heap} (h : Filled H1 nid o H') : H'.has nid := ⟨o, by rw [h.get, if_pos rfl]⟩
theorem filled_push (H : Heap) (o : AO) : Filled H H.len o (H.push o) :=
  ⟨fun j => Heap.get_push _ _ _, by simp, fun j hj hh => by unfold Heap.hole; rw [Heap.sl_push, if_neg hj]; exact hh⟩
theorem filled_set (H : Heap) (o : AO) (nid : Nat) (h : H.hole nid) : Filled H nid o (H.set nid o) :=
  ⟨fun j => by rw [Heap.get_set, if_pos (Heap.slot_of_hole h)], by simp, fun j hj hh => by unfold Heap.hole; rw [Heap.sl_set, if_neg hj]; exact hh⟩

/-- An object stands at a place of the world (what it holds is told of the state ahead). -/
def ObjAt (ρ : Rho) (H : Heap) (w w' : World) (p : Nat × Nat) : AO → Prop
  | .row e ex _ fz cs => ∃ carr lo hi, w'.heap[p.1]? = some (.cells carr e (lo, hi)) ∧ p.2 + cs.length ≤ carr.size ∧ (ex = true → p.2 = 0 ∧ carr.size = cs.length) ∧ hi ≤ p.2 + fz ∧
    ∀ (j : Nat) a, cs[j]? = some a → ∃ v, carr[p.2 + j]? = some v ∧ AVR ρ H w a v
  | .map _ es cl => ∃ ces, w'.heap[p.1]? = some (.map ces cl) ∧ ces.size = es.length ∧
    ∀ (j : Nat) k v b, es[j]? = some (k, v, b) → ∃ e, ces[j]? = some e ∧ AVR ρ H w k e.key ∧ AVR ρ H w v e.val ∧ e.born = b
  | .dead => False

/-- A new object: in a new block, or in the block of one that is let go at once. -/
theorem stp_fill {S : Nat → Prop} {ρ : Rho} {H H1 H' : Heap} {low nid : Nat} {w w' : World} {obj : AO} {p : Nat × Nat} (h : HR ρ H w)
    (hS : ∀ i, S i → H.has i ∧ i ≠ nid) (hval : ∀ id o, H.get id = some o → ORB S o) (hobjS : ORB S obj)
    (sub : ∀ i o, H1.get i = some o → o ≠ .dead → H.get i = some o) (hle : ∀ i o, H.get i = some o → ∃ o', H1.get i = some o' ∧ wle o o') (hho : ∀ i, H.hole i → H1.hole i) (hlen : H1.len = H.len) (hF : Filled H1 nid obj H')
    (hd : H1.get nid = none) (hp : ∀ i o, H1.get i = some o → o ≠ .dead → (ρ i).1 ≠ p.1) (hown : p.1 < w.heap.size → Owned ρ H p.1) (hpr : ¬ ρ.res p.1)
    (ho : ∀ b, b ≠ p.1 → b < w.heap.size → w'.heap[b]? = w.heap[b]?)
    (hsz : ∀ carr e fr, w.heap[p.1]? = some (.cells carr e fr) → ∃ carr' fr', w'.heap[p.1]? = some (.cells carr' e fr') ∧ carr'.size = carr.size)
    (hgrow : w.heap.size ≤ w'.heap.size) (hw : Same w w') (hobj : ObjAt ρ H w w' p obj) :
    StpS S nid ρ H low w (upd ρ nid p) H' low w' := by
  have hod : obj ≠ .dead := by intro e; subst e; exact hobj
  have live : ∀ i o, H'.get i = some o → o ≠ .dead → i ≠ nid → H1.get i = some o := by
    intro i o g1 _ g3
    rw [hF.get, if_neg g3] at g1; exact g1
  have T : Tra S ρ H w (upd ρ nid p) H' w' := by
    refine ⟨⟨fun i hi => ?_, fun i hi => upd_other (hS i hi).2, fun i o hi g1 g2 => ?_, fun b hb hno => ?_, fun b hb hno => ?_, fun b carr e fr hb => ?_, hgrow, hw.os, hw.tape, hw.output⟩, rfl, fun b hb => ho b (fun e => hpr (e ▸ hb)) (h.res b hb)⟩
    · obtain ⟨o, ho⟩ := (hS i hi).1
      obtain ⟨o1, h1, _⟩ := hle i o ho
      exact ⟨o1, by rw [hF.get, if_neg (hS i hi).2]; exact h1⟩
    · have := sub i o (live i o g1 g2 (hS i hi).2) g2
      exact ⟨o, this, .refl g2⟩
    · rintro (h | ⟨i, o, g1, g2, g3⟩)
      · exact hno (.inl h)
      by_cases e : i = nid
      · subst e; rw [upd_same] at g3; subst g3; exact hno (hown hb)
      · rw [upd_other e] at g3; exact hno (.inr ⟨i, o, sub i o (live i o g1 g2 e) g2, g2, g3⟩)
    · refine ho b (fun e => ?_) hb
      subst e; exact hno (hown hb)
    · by_cases e1 : b = p.1
      · subst e1; exact hsz _ _ _ hb
      · exact ⟨carr, fr, by rw [ho b e1 (Array.getElem?_eq_some_iff.1 hb).1]; exact hb, rfl⟩
  have keepb : ∀ i o, H1.get i = some o → o ≠ .dead → w'.heap[(ρ i).1]? = w.heap[(ρ i).1]? := fun i o g1 g2 => ho _ (hp i o g1 g2) (h.lt (sub i o g1 g2) g2)
  refine ⟨T, ⟨fun i e ex wc fz cs g1 => ?_, fun i wc es cl g1 => ?_, fun i i' o o' g1 g2 g3 g4 g5 => ?_, fun b hb => Nat.lt_of_lt_of_le (h.res b hb) hgrow, fun i o g1 g2 => ?_⟩, ⟨Nat.le_refl _, fun n h1 h2 h3 i o hi g1 => ?_⟩, by rw [← hlen]; exact hF.len, fun i o g1 => ?_, fun i hi hh => hF.hole i (by omega) (hho i hh)⟩
  · by_cases e1 : i = nid
    · subst e1
      rw [hF.get, if_pos rfl] at g1
      cases g1
      rw [upd_same]
      obtain ⟨carr, lo, hi, k1, k2, k3, k4, k5⟩ := hobj
      exact ⟨carr, lo, hi, k1, k2, k3, k4, fun j a ha => let ⟨v, m1, m2⟩ := k5 j a ha; ⟨v, m1, m2.tra T (hobjS j a ha)⟩⟩
    · have g2 := live i _ g1 (by simp) e1
      have g3 := sub i _ g2 (by simp)
      obtain ⟨carr, lo, hi, k1, k2, k3, k4, k5⟩ := h.row _ _ _ _ _ _ g3
      rw [upd_other e1, keepb i _ g2 (by simp)]
      exact ⟨carr, lo, hi, k1, k2, k3, k4, fun j a ha => let ⟨v, m1, m2⟩ := k5 j a ha; ⟨v, m1, m2.tra T (hval i _ g3 j a ha)⟩⟩
  · by_cases e1 : i = nid
    · subst e1
      rw [hF.get, if_pos rfl] at g1
      cases g1
      rw [upd_same]
      obtain ⟨ces, k1, k2, k3⟩ := hobj
      exact ⟨ces, k1, k2, fun j k v b hb => let ⟨e, m1, m2, m3, m4⟩ := k3 j k v b hb; ⟨e, m1, m2.tra T (hobjS j k v b hb).1, m3.tra T (hobjS j k v b hb).2, m4⟩⟩
    · have g2 := live i _ g1 (by simp) e1
      have g3 := sub i _ g2 (by simp)
      obtain ⟨ces, k1, k2, k3⟩ := h.map _ _ _ _ g3
      rw [upd_other e1, keepb i _ g2 (by simp)]
      exact ⟨ces, k1, k2, fun j k v b hb => let ⟨e, m1, m2, m3, m4⟩ := k3 j k v b hb; ⟨e, m1, m2.tra T (hval i _ g3 j k v b hb).1, m3.tra T (hval i _ g3 j k v b hb).2, m4⟩⟩
  · by_cases e1 : i = nid
    · by_cases e2 : i' = nid
      · rw [e1, e2]
      · rw [e1, upd_same, upd_other e2] at g5
        exact absurd g5.symm (hp i' o' (live i' o' g3 g4 e2) g4)
    · by_cases e2 : i' = nid
      · rw [e2, upd_same, upd_other e1] at g5
        exact absurd g5 (hp i o (live i o g1 g2 e1) g2)
      · rw [upd_other e1, upd_other e2] at g5
        exact h.inj _ _ _ _ (sub _ _ (live i o g1 g2 e1) g2) g2 (sub _ _ (live i' o' g3 g4 e2) g4) g4 g5
  · by_cases e1 : i = nid
    · subst e1; rw [upd_same]; exact hpr
    · rw [upd_other e1]; exact h.apart _ _ (sub _ _ (live i o g1 g2 e1) g2) g2
  · have hin : i ≠ nid := by omega
    by_cases hdd : o = .dead
    · subst hdd; trivial
    · exact h3 i o hi (sub _ _ (live i o g1 hdd hin) hdd)
  · obtain ⟨o1, k1, k2⟩ := hle i o g1
    refine ⟨o1, ?_, k2⟩
    rw [hF.get, if_neg (fun e => by subst e; rw [hd] at k1; cases k1)]; exact k1

end Go.Proofs.YtobejienmopklaaGreatDoor.Ev
