/- LowerRuns: operations on memory, second part. Conditions: none beyond the card's own. -/
import Derived.Test.YtobejienmopklaaGreatDoorE4
import Derived.Deep.AppendSrc
import Derived.Deep.Upon
import Derived.Lib.Builder
import Derived.Lib.AppendZerosOnto
import Derived.Lib.UnsafeStr
/- Append. -/
namespace Go.Proofs.YtobejienmopklaaGreatDoor.Ev
set_option linter.unusedSimpArgs false
variable {P : Program} {ρ : Rho} {H : Heap} {w : World}

theorem growBy_le (newLen : Nat) (h : 110 ≤ newLen) : ∀ (r c : Nat), c ≤ 3 * newLen → Builtin.growBy newLen r c ≤ 3 * newLen := by
  intro r
  induction r with
  | zero => intro c hc; simpa [Builtin.growBy] using hc
  | succ r ih =>
    intro c hc
    unfold Builtin.growBy
    split
    · exact hc
    · exact ih _ (by omega)
theorem nextslicecap_le {need cap : Nat} (h : cap < need) : Builtin.nextslicecap need cap ≤ 3 * need := by
  unfold Builtin.nextslicecap
  split
  · omega
  · split
    · omega
    · exact growBy_le _ (by omega) _ _ (by omega)

/-- the cells that are read of a value, abstract and in the world -/
def CellsR (ρ : Rho) (H : Heap) (w : World) (cs : List AV) (us : Array Value) : Prop := us.size = cs.length ∧ ∀ (j : Nat) a u, cs[j]? = some a → us[j]? = some u → AVR ρ H w a u

theorem flat_get : ∀ (es : List (List AV)) (sz : Nat), (∀ e ∈ es, e.length = sz) → es.flatten.length = es.length * sz ∧
    ∀ (k : Nat) a, es.flatten[k]? = some a → ∃ e, es[k / sz]? = some e ∧ e[k % sz]? = some a := by
  intro es sz
  induction es with
  | nil => intro _; simp
  | cons e es ih =>
    intro h
    obtain ⟨h1, h2⟩ := ih fun e he => h e (by simp [he])
    have he := h e (by simp)
    refine ⟨by simp [h1, he, Nat.succ_mul, Nat.add_comm], fun k a ha => ?_⟩
    rw [List.flatten_cons, List.getElem?_append] at ha
    split at ha
    · rename_i hk
      rw [he] at hk
      exact ⟨e, by rw [Nat.div_eq_of_lt hk]; rfl, by rw [Nat.mod_eq_of_lt hk]; exact ha⟩
    · rename_i hk
      rw [he] at hk ha
      obtain ⟨e', m1, m2⟩ := h2 _ _ ha
      have hsz : 0 < sz := by
        rcases Nat.eq_zero_or_pos sz with h0 | h0
        · subst h0
          have := (List.getElem?_eq_some_iff.1 m2).1
          have := h e' (by simp [List.mem_of_getElem? m1])
          omega
        · exact h0
      refine ⟨e', ?_, ?_⟩
      · have : k / sz = (k - sz) / sz + 1 := by
          rw [← Nat.add_div_right _ hsz]; congr 1; omega
        rw [this, List.getElem?_cons_succ]; exact m1
      · rw [Nat.mod_eq_sub_mod (by omega)]; exact m2

theorem src_ok {b : AV} {ub : Value} {size n : Nat} {cs : List AV} (h : HR ρ H w) (hb : AVR ρ H w b ub) (hs : srcOf size H b = some (n, cs)) :
    (∀ w', (Builtin.lenOf ub).run P w' = .ok n w') ∧ ∃ us, (∀ w' : World, w'.heap = w.heap → (Builtin.firstCells size n ub).run P w' = .ok us w') ∧ CellsR ρ H w cs us ∧ cs.length = n * size := by
  unfold srcOf at hs
  split at hs
  · rename_i s
    obtain ⟨hc, hs⟩ := cnd_some.1 hs
    simp at hc
    subst hc
    cases hs
    cases hb with
    | str _ bb hbb =>
      subst hbb
      have hl : (bytes bb).length = bb.data.size := by unfold bytes; rw [List.length_map]; rfl
      have hx : bb.extract 0 (bytes bb).length = bb := by
        have : (bytes bb).length = bb.size := hl
        rw [this]; exact ByteArray.extract_zero_size
      refine ⟨fun w' => by simp only [Builtin.lenOf, Sem.run_pure, hl]; rfl, bb.data.map fun b => .int .u8 b.toNat, fun w' _ => by simp only [Builtin.firstCells, Sem.run_pure, hx], ⟨?_, fun j a u ha hu => ?_⟩, by unfold u8s; rw [List.length_map, Nat.mul_one]⟩
      · unfold u8s; rw [List.length_map, hl, Array.size_map]
      · unfold u8s bytes at ha
        simp only [List.getElem?_map, Array.getElem?_toList, Array.getElem?_map] at ha hu
        cases hq : bb.data[j]? with
        | none => rw [hq] at ha; cases ha
        | some y => rw [hq] at ha hu; cases ha; cases hu; exact .int _ _
  · rename_i id off m sz clip
    simp only [cnd_eq] at hs
    split at hs
    · rename_i h0
      simp at h0
      subst h0
      cases hs
      cases hb with
      | slc _ _ _ _ _ A c h1 h2 h3 h4 h5 =>
        refine ⟨fun w' => by simp [Builtin.lenOf], #[], fun w' _ => ?_, ⟨rfl, by simp⟩, by simp⟩
        cases A with
        | none => simp [Builtin.firstCells]
        | some a =>
          have := run_loadCells (P := P) w' a 0 (fun _ => undef) (fun j hj => by omega)
          simpa [Builtin.firstCells] using this
    · rename_i h0
      split at hs
      case isFalse => cases hs
      rename_i hc
      simp at hc h0
      subst hc
      split at hs
      · rename_i e ex wc fz cs0 hg
        split at hs
        · rename_i r hr
          cases hs
          have hrl := cut_len hr
          cases hb with
          | slc _ _ _ _ _ A c h1 h2 h3 h4 h5 =>
            obtain ⟨carr, e', fr, k2, k3⟩ := h5 _ _ _ _ _ hg
            have hA := h4.2 (by omega)
            subst hA
            obtain ⟨us, m1, m2⟩ := h.cells hg
            have hget : ∀ j, j < n * sz → ∃ a, cs0[off + j]? = some a ∧ cs[j]? = some a := by
              intro j hj
              have := cut_get hr j hj
              have h2 : cs[j]? = some (cs[j]'(by omega)) := by simp [show j < cs.length by omega]
              exact ⟨_, by rw [← this]; exact h2, h2⟩
            refine ⟨fun w' => by simp [Builtin.lenOf], ((List.range (n * sz)).map fun j => us (off + j)).toArray, fun w' hw' => ?_, ⟨by simp [hrl], fun j a u ha hu => ?_⟩, hrl⟩
            · simp only [Builtin.firstCells]
              exact run_loadCells w' _ _ _ (fun j hj => by
                obtain ⟨a, q1, _⟩ := hget j hj
                rw [addr_add, Nat.add_assoc, cell?_of_heap (w := w) (w' := w') (by rw [hw'])]; exact m1 _ _ q1)
            · have hlt : j < n * sz := by rw [← hrl]; exact (List.getElem?_eq_some_iff.1 ha).1
              obtain ⟨a', q1, q2⟩ := hget j hlt
              rw [ha] at q2; cases q2
              simp [hlt] at hu
              subst hu
              exact m2 _ _ q1
        · cases hs
      · cases hs
  · rename_i clip sz es
    obtain ⟨hc, hs⟩ := cnd_some.1 hs
    cases hs
    cases hb with
    | sl _ _ _ A c b o us h1 h2 h3 h4 h5 h6 h7 =>
      have hes : ∀ e ∈ es, e.length = sz := by
        intro e he
        obtain ⟨i, hi⟩ := List.mem_iff_getElem?.1 he
        exact h3 i e hi
      obtain ⟨f1, f2⟩ := flat_get es sz hes
      by_cases hne : es = []
      · subst hne
        refine ⟨fun w' => by simp [Builtin.lenOf], #[], fun w' _ => ?_, ⟨rfl, by simp⟩, by simp⟩
        cases A with
        | none => simp [Builtin.firstCells]
        | some a =>
          have := run_loadCells (P := P) w' a 0 (fun _ => undef) (fun j hj => by omega)
          simpa [Builtin.firstCells] using this
      · have hsz : sz = size := by
          simp at hc
          rcases hc with hc | hc
          · exact hc
          · exact absurd hc hne
        subst hsz
        obtain ⟨rfl, k2, k3⟩ := h4 hne
        have hget : ∀ k, k < es.length * sz → ∃ e a, es[k / sz]? = some e ∧ e[k % sz]? = some a ∧ es.flatten[k]? = some a := by
          intro k hk
          have : es.flatten[k]? = some (es.flatten[k]'(by omega)) := by simp [show k < es.flatten.length by omega]
          obtain ⟨e, q1, q2⟩ := f2 _ _ this
          exact ⟨e, _, q1, q2, this⟩
        refine ⟨fun w' => by simp [Builtin.lenOf], ((List.range (es.length * sz)).map fun k => us (k / sz) (k % sz)).toArray, fun w' hw' => ?_, ⟨by simp [f1], fun j a u ha hu => ?_⟩, f1⟩
        · simp only [Builtin.firstCells]
          exact run_loadCells w' _ _ _ (fun k hk => by
            obtain ⟨e, a, q1, q2, _⟩ := hget k hk
            have := h5 _ _ _ _ q1 q2
            rw [addr_add, cell?_of_heap (w := w) (w' := w') (by rw [hw'])]
            rw [Nat.add_assoc] at this
            have e1 : k / sz * sz + k % sz = k := by rw [Nat.mul_comm]; exact Nat.div_add_mod k sz
            rwa [e1] at this)
        · have hlt : j < es.length * sz := by rw [← f1]; exact (List.getElem?_eq_some_iff.1 ha).1
          obtain ⟨e, a', q1, q2, q3⟩ := hget j hlt
          rw [ha] at q3; cases q3
          simp [hlt] at hu
          subst hu
          exact h7 _ _ _ _ q1 q2
  · cases hs

end Go.Proofs.YtobejienmopklaaGreatDoor.Ev

/- Append: the operation. -/
namespace Go.Proofs.YtobejienmopklaaGreatDoor.Ev
set_option linter.unusedVariables false
set_option linter.unnecessarySimpa false
set_option linter.unusedSimpArgs false
variable {P : Program} {ρ : Rho} {H : Heap} {w : World}

theorem src_rb {S : Nat → Prop} {b : AV} {size n : Nat} {cs : List AV} (hb : RB S b) (hv : ∀ id o, H.get id = some o → ORB S o) (hs : srcOf size H b = some (n, cs)) : ∀ (j : Nat) a, cs[j]? = some a → RB S a := by
  intro j a ha
  unfold srcOf at hs
  split at hs
  · obtain ⟨hc, hs⟩ := cnd_some.1 hs
    cases hs
    unfold u8s at ha
    rw [List.getElem?_map] at ha
    obtain ⟨y, _, rfl⟩ := Option.map_eq_some_iff.1 ha
    exact .int _ _
  · simp only [cnd_eq] at hs
    split at hs
    · cases hs; simp at ha
    · split at hs
      case isFalse => cases hs
      split at hs
      · rename_i hg
        split at hs
        · rename_i r hr
          cases hs
          have hlt := (List.getElem?_eq_some_iff.1 ha).1
          rw [cut_get hr j (by rw [← cut_len hr]; exact hlt)] at ha
          exact hv _ _ hg _ _ ha
        · cases hs
      · cases hs
  · rename_i clip sz es
    obtain ⟨hc, hs⟩ := cnd_some.1 hs
    cases hs
    cases hb with
    | sl _ _ _ he =>
      have := List.mem_of_getElem? ha
      obtain ⟨e, h1, h2⟩ := List.mem_flatten.1 this
      obtain ⟨i, hi⟩ := List.mem_iff_getElem?.1 h1
      obtain ⟨k, hk⟩ := List.mem_iff_getElem?.1 h2
      exact (he _ _ _ _ hi hk).none
  · cases hs

theorem zeroCells_size (z : Array Value) (n : Nat) : (Builtin.zeroCells z n).size = n * z.size := by simp [Builtin.zeroCells]

theorem append_get {α : Type} {R : AV → α → Prop} {as bs : List AV} {xs ys zs : List α} (h1 : xs.length = as.length) (h2 : ys.length = bs.length) (r1 : ∀ (j : Nat) a u, as[j]? = some a → xs[j]? = some u → R a u)
    (r2 : ∀ (j : Nat) a u, bs[j]? = some a → ys[j]? = some u → R a u) : ∀ (j : Nat) a u, (as ++ bs)[j]? = some a → (xs ++ ys ++ zs)[j]? = some u → R a u := by
  intro j a u ha hu
  by_cases hj : j < as.length
  · rw [List.getElem?_append_left hj] at ha
    rw [List.append_assoc, List.getElem?_append_left (by omega)] at hu
    exact r1 _ _ _ ha hu
  · rw [List.getElem?_append_right (by omega)] at ha
    have := (List.getElem?_eq_some_iff.1 ha).1
    rw [List.append_assoc, List.getElem?_append_right (by omega), List.getElem?_append_left (by omega), h1] at hu
    exact r2 _ _ _ ha hu

theorem run_append_room_row (t tx ty e : TypeId) (i : TypeInfo) (ht : P.underlying t = some (.slice e)) (hi : P.info? e = some i) (b off sLen sCap : Nat) (x : Value) (n : Nat) (news : List Value) (hs : Src P i.size tx x n news w)
    (hroom : sLen + n ≤ sCap) {cur : Array Value} {e' : TypeId} {fz : Nat × Nat} (hg : w.heap[b]? = some (.cells cur e' fz)) (hfz : fz.2 ≤ off + sLen * i.size) (hl : off + sLen * i.size + news.length ≤ cur.size) :
    (Builtin.append_ #[t, tx] ty #[.slice (some ⟨b, off, none⟩) sLen sCap, x]).run P w = .ok (.slice (some ⟨b, off, none⟩) (sLen + n) sCap)
      (w.setRow b (cur.toList.take (off + sLen * i.size) ++ news ++ cur.toList.drop (off + sLen * i.size + news.length)).toArray) := by
  have hst := run_storeCells_atF P b (off + sLen * i.size) e' fz news 0 cur w hg (by simpa using hfz) (by simpa using hl) hs.one
  simp only [Nat.add_zero] at hst
  rcases hs.kind with ⟨e', hk⟩ | hk <;> simp [Builtin.append_, run_underlying ht, run_underlying hk, sizeOf, typeInfo, hi, hs.len, hroom, hs.cells, Addr.add_lit, hst]

theorem avr_drew {a : AV} {v : Value} (h : AVR ρ H w a v) : AVR ρ H w.drew a v := h.mono (tra_same (w := w) (w' := w.drew) rfl ⟨rfl, rfl, rfl⟩)
theorem hr_drew (h : HR ρ H w) : HR ρ H w.drew := hr_same h rfl ⟨rfl, rfl, rfl⟩

theorem src_is {u : TypeId} {b : AV} {ub : Value} {size n : Nat} {cs : List AV} (h : HR ρ H w) (hk : (∃ e', P.underlying u = some (.slice e')) ∨ P.underlying u = some .string) (hb : AVR ρ H w b ub)
    (hs : srcOf size H b = some (n, cs)) (hp : plains cs = true) : ∃ us : List Value, Src P size u ub n us w ∧ us.length = cs.length ∧ ∀ (j : Nat) a x, cs[j]? = some a → us[j]? = some x → AVR ρ H w a x := by
  obtain ⟨h1, us, h2, ⟨h3, h4⟩, h5⟩ := src_ok (P := P) h hb hs
  refine ⟨us.toList, ⟨hk, h1, by simpa using h2 w rfl, by simpa using h2 w.drew rfl, by simpa using (by omega : us.size = n * size), fun x hx => ?_⟩, by simpa using h3, fun j a x ha hx => h4 j a x ha (by simpa using hx)⟩
  obtain ⟨j, hj⟩ := List.mem_iff_getElem?.1 hx
  have hlt := (List.getElem?_eq_some_iff.1 hj).1
  simp at hlt
  have ha : cs[j]? = some (cs[j]'(by omega)) := by simp [show j < cs.length by omega]
  simp [plains] at hp
  exact plain_cell (h4 j _ _ ha (by simpa using hj)) (hp _ (List.mem_of_getElem? ha))

theorem sl_shape {a : AV} {ua : Value} {size len : Nat} {cs : List AV} (h : HR ρ H w) (ha : AVR ρ H w a ua) (hsl : isSl a = true) (hs : srcOf size H a = some (len, cs)) :
    ∃ A c, ua = .slice A len c ∧ len ≤ c := by
  have hlen := (src_ok (P := default) h ha hs).1 w
  cases a <;> simp [isSl] at hsl
  · cases ha with
    | slc _ _ _ _ _ A c h1 h2 h3 h4 h5 => simp [Builtin.lenOf] at hlen; subst hlen; exact ⟨A, c, rfl, h2⟩
  · cases ha with
    | sl _ _ _ A c b o us h1 => simp [Builtin.lenOf] at hlen; subst hlen; exact ⟨A, c, rfl, h1⟩

theorem isSl_shape {a : AV} {ua : Value} (ha : AVR ρ H w a ua) (hsl : isSl a = true) : ∃ A len c, ua = .slice A len c ∧ len ≤ c := by
  cases a <;> simp [isSl] at hsl
  · cases ha with
    | slc _ _ _ _ _ A c h1 h2 h3 h4 h5 => exact ⟨A, _, c, rfl, h2⟩
  · cases ha with
    | sl _ _ _ A c b o us h1 => exact ⟨A, _, c, rfl, h1⟩

theorem slc_inv {id off ln sz len c : Nat} {clip : Bool} {A : Option Addr} (h : AVR ρ H w (.slc id off ln sz clip) (.slice A len c)) : ln = len ∧ H.has id ∧ len ≤ c ∧ (clip = true → c = len) ∧ (0 < c → A = some ⟨(ρ id).1, (ρ id).2 + off, none⟩) ∧
      (∀ e ex wc fz cs, H.get id = some (.row e ex wc fz cs) → ∃ carr e' fr, w.heap[(ρ id).1]? = some (.cells carr e' fr) ∧ (ρ id).2 + off + c * sz ≤ carr.size) := by
  cases h with
  | slc _ _ _ _ _ A c h1 h2 h3 h4 h5 => exact ⟨rfl, h1, h2, h3, h4.2, h5⟩
theorem sl_inv {sz len c : Nat} {clip : Bool} {es : List (List AV)} {A : Option Addr} (h : AVR ρ H w (.sl clip sz es) (.slice A len c)) : len = es.length ∧ (clip = true → c = len) := by
  cases h with
  | sl _ _ _ A c b o us h1 h2 => exact ⟨rfl, h2.1⟩

theorem slOf {a : AV} (h : isSl a = true) : (∃ clip sz es, a = .sl clip sz es) ∨ ∃ id off ln sz clip, a = .slc id off ln sz clip := by
  cases a <;> first | (simp [isSl] at h; done) | exact .inl ⟨_, _, _, rfl⟩ | exact .inr ⟨_, _, _, _, _, rfl⟩

set_option maxHeartbeats 2000000 in
theorem append_ok {t u ty : TypeId} {a b : AV} {ua ub : Value} {S0 nid} {d : D} (h : HR ρ H w) (hk : (∃ e', P.underlying u = some (.slice e')) ∨ P.underlying u = some .string) (ha : AVR ρ H w a ua) (hb : AVR ρ H w b ub)
    (h0 : ∀ S, S0 S → RB S a ∧ RB S b) (hd : appendA P t a b H nid = some d) :
    ∃ r w', (Builtin.append_ #[t, u] ty #[ua, ub]).run P w = .ok r w' ∧ Fin ρ H w w' S0 nid r d := by
  unfold appendA at hd
  split at hd
  · cases hd
  rename_i e he
  split at hd
  · cases hd
  rename_i i hi
  obtain ⟨hsl, hd⟩ := cnd_some.1 hd
  split at hd
  · cases hd
  rename_i n new hnew
  have hut : P.underlying t = some (.slice e) := by
    unfold elemT at he
    split at he
    · cases he; assumption
    · cases he
  rw [cnd_eq] at hd
  split at hd
  · rename_i hn0
    simp at hn0
    subst hn0
    cases hd
    obtain ⟨A, len, c, rfl, hlc⟩ := isSl_shape ha hsl
    have hnl : new = [] := by
      have := (src_ok (P := P) h hb hnew).2
      obtain ⟨us, _, _, h5⟩ := this
      exact List.eq_nil_of_length_eq_zero (by omega)
    subst hnl
    obtain ⟨us, m1, m2, _⟩ := src_is h hk hb hnew (by simp [plains])
    have : us = [] := List.eq_nil_of_length_eq_zero (by simpa using m2)
    subst this
    exact ⟨_, _, run_append_nothing w t u ty e i hut hi A len c hlc ub m1, fin_val h ha⟩
  · rename_i hn0
    simp at hn0
    split at hd
    · cases hd
    rename_i len old hold
    obtain ⟨hc, hd⟩ := cnd_some.1 hd
    simp only [Bool.and_eq_true, Nat.ble_eq] at hc
    obtain ⟨⟨⟨hc1, hc2⟩, hc3⟩, hc4⟩ := hc
    obtain ⟨A, c, rfl, hlc⟩ := sl_shape h ha hsl hold
    obtain ⟨_, us0, q2, ⟨q3, q4⟩, q5⟩ := src_ok (P := P) h ha hold
    obtain ⟨us, m1, m2, m3⟩ := src_is h hk hb hnew hc3
    obtain ⟨_, _, _, _, p5⟩ := src_ok (P := P) h hb hnew
    unfold zeroOk at hc4
    split at hc4
    case h_2 => cases hc4
    rename_i z hz
    simp at hc4
    have rb0 : ∀ S, S0 S → (∀ id o, H.get id = some o → ORB S o) → ∀ (j : Nat) a, (old ++ new)[j]? = some a → RB S a := by
      intro S hs hval j x hx
      rw [List.getElem?_append] at hx
      split at hx
      · exact src_rb (h0 S hs).1 hval hold _ _ hx
      · exact src_rb (h0 S hs).2 hval hnew _ _ hx
    have grow : c < len + n → ∃ nc w', len + n ≤ nc ∧ (Builtin.append_ #[t, u] ty #[.slice A len c, ub]).run P w = .ok (.slice (some ⟨w.heap.size, 0, none⟩) (len + n) nc) w' ∧ Same w w' ∧
        ∃ carr : Array Value, w'.heap = w.heap.push (.cells carr e (0, 0)) ∧ nc * i.size ≤ carr.size ∧ (old ++ new).length ≤ carr.size ∧ ∀ (j : Nat) a u, (old ++ new)[j]? = some a → carr[j]? = some u → AVR ρ H w a u := by
      intro hg
      have hr := run_append_grow_src (P := P) w t u ty e i z hut hi hz A len c us0.toList (by simpa using q2 w.drew rfl) ub n us m1 hg (by omega) (by
        have h2 := nextslicecap_le hg
        have h3 := Nat.mul_le_mul_right i.bytes h2
        rw [Nat.mul_assoc] at h3
        omega)
      have hnc : len + n ≤ grownCap w (len + n) c e := by unfold grownCap; simp [Question.cut]
      refine ⟨_, _, hnc, hr, ⟨rfl, rfl, rfl⟩, _, rfl, ?_, ?_, ?_⟩
      · have e1 : grownCap w (len + n) c e * i.size = len * i.size + n * i.size + (grownCap w (len + n) c e - (len + n)) * i.size := by
          rw [← Nat.add_mul, ← Nat.add_mul]; congr 1; omega
        simp [zeroCells_size, hc4]; omega
      · simp; omega
      · intro j x y hx hy
        have := append_get (R := AVR ρ H w) (xs := us0.toList) (ys := us) (zs := (Builtin.zeroCells z.cells (grownCap w (len + n) c e - (len + n))).toList) (by simpa using q3) m2 (fun j a u h1 h2 => q4 j a u h1 (by simpa using h2)) m3 j x y hx
        apply this
        rw [← Array.getElem?_toList] at hy
        simpa using hy
    clear hc1 hc2
    have fresh : c < len + n → ∀ rd, made (.slc nid 0 (len + n) i.size false) rd (row e false (old ++ new)) = some d →
        ∃ r w', (Builtin.append_ #[t, u] ty #[.slice A len c, ub]).run P w = .ok r w' ∧ Fin ρ H w w' S0 nid r d := by
      intro hg rd hd
      obtain ⟨nc, w', g1, g2, g3, carr, g4, g5, g6, g7⟩ := grow hg
      exact ⟨_, _, g2, newRow_fin h g4 g3 g6 g7 g1 (by simp) g5 rb0 hd⟩
    rcases slOf hsl with ⟨clip, sz, es, rfl⟩ | ⟨id, off, ln, sz, clip, rfl⟩
    · cases clip with
      | false => simp [appendTo] at hd
      | true =>
        simp only [appendTo] at hd
        rw [Nat.now_eq] at hd
        obtain ⟨_, h2⟩ := sl_inv ha
        have h3 : c = len := h2 rfl
        exact fresh (by rw [h3]; exact Nat.lt_add_of_pos_right (Nat.pos_of_ne_zero hn0)) _ hd
    · simp only [appendTo] at hd
      split at hd
      · rename_i e1 ex wc fz cs hg
        obtain ⟨hsz, hd⟩ := cnd_some.1 hd
        simp at hsz
        subst hsz
        obtain ⟨hln, h1, h2, h3, h4, h5⟩ := slc_inv ha
        subst hln
        rw [cnd_eq] at hd
        split at hd
        · rename_i hcl
          rw [Nat.now_eq] at hd
          have h3 := h3 hcl
          exact fresh (by rw [h3]; exact Nat.lt_add_of_pos_right (Nat.pos_of_ne_zero hn0)) _ hd
        · rename_i hcl
          obtain ⟨hq, hd⟩ := cnd_some.1 hd
          simp only [Bool.and_eq_true, Nat.ble_eq, Nat.beq_eq, Bool.not_eq_true'] at hq
          obtain ⟨⟨⟨hq1, hq2⟩, hq3⟩, hq4⟩ := hq
          subst hq4
          rw [Nat.now_eq] at hd
          cases hd
          have hlt : H.slot id := Heap.slot_of_get hg
          have sub : ∀ i o, (H.set id .dead).get i = some o → o ≠ .dead → H.get i = some o ∧ i ≠ id := by
            intro i o g1 g2
            rw [Heap.get_set] at g1
            by_cases e2 : i = id
            · rw [if_pos e2, if_pos hlt] at g1; cases g1; exact absurd rfl g2
            · rw [if_neg e2] at g1; exact ⟨g1, e2⟩
          have hdd : H.get nid = none → (H.set id .dead).get nid = none := by
            intro hdead
            rw [Heap.get_set]
            by_cases e2 : nid = id
            · rw [e2, hg] at hdead; cases hdead
            · rw [if_neg e2]; exact hdead
          have hle0 : ∀ i o, H.get i = some o → ∃ o', (H.set id .dead).get i = some o' ∧ wle o o' := wle_set hg (by simp [wle])
          have hho0 : ∀ i, H.hole i → (H.set id .dead).hole i := fun i hh => Heap.hole_set hg hh
          obtain ⟨carr0, e0, fr0, k2, k3⟩ := h5 _ _ _ _ _ hg
          obtain ⟨carr, lo, hi', g1, g2, g3, g4, g5⟩ := h.row _ _ _ _ _ _ hg
          rw [k2] at g1
          cases g1
          by_cases hfit : ln + n ≤ c
          · have hA := h4 (Nat.lt_of_lt_of_le (Nat.pos_of_ne_zero hn0) (Nat.le_trans (Nat.le_add_left n ln) hfit))
            subst hA
            have hn1 : us.length = n * i.size := by omega
            have hle : (ln + n) * i.size ≤ c * i.size := Nat.mul_le_mul_right _ hfit
            have hsp : (ln + n) * i.size = ln * i.size + n * i.size := Nat.add_mul _ _ _
            have hrun := run_append_room_row (P := P) (w := w) t u ty e1 i hut hi (ρ id).1 ((ρ id).2 + off) ln c ub n us m1 hfit k2 (by simp; omega) (by omega)
            refine ⟨_, _, hrun, ?_⟩
            intro S H' low hF hS hval hs0 hdead
            have hcarr : (carr0.toList.take ((ρ id).2 + off + ln * i.size) ++ us ++ carr0.toList.drop ((ρ id).2 + off + ln * i.size + us.length)).length = carr0.size := by
              simp; omega
            refine ⟨((ρ id).1, (ρ id).2 + off), stp_fill (obj := .row e1 false 0 fz (old ++ new)) (p := ((ρ id).1, (ρ id).2 + off)) h hS hval (fun j x hx => rb0 S hs0 hval j x hx) (fun i o g1 g2 => (sub i o g1 g2).1) hle0 hho0 (by simp [layH]) hF (hdd hdead)
              (fun i o g1 g2 => ?_) (fun _ => .inr ⟨id, _, hg, by simp, rfl⟩) (h.apart _ _ hg (by simp)) (fun b hb _ => setRow_other _ _ _ _ hb) (fun carr1 e2 fr hb => ?_) (by simp) ⟨rfl, rfl, rfl⟩ ?_, ?_⟩
            · intro he
              obtain ⟨s1, s2⟩ := sub i o g1 g2
              exact s2 (h.inj _ _ _ _ s1 g2 hg (by simp) he)
            · rw [k2] at hb
              cases hb
              exact ⟨_, _, setRow_heap _ _ _ _ _ _ k2, by simpa using hcarr⟩
            · refine ⟨_, lo, hi', setRow_heap _ _ _ _ _ _ k2, ?_, (by simp), (by omega), fun j x hx => ?_⟩
              · simp only [List.size_toArray, hcarr]; simp; omega
              · have hj := (List.getElem?_eq_some_iff.1 hx).1
                simp at hj
                simp only [List.getElem?_toArray]
                by_cases hjo : j < old.length
                · rw [List.getElem?_append_left hjo] at hx
                  have hcut : old[j]? = cs[off + j]? := by
                    have hs2 := hold
                    unfold srcOf at hs2
                    simp only [cnd_eq] at hs2
                    split at hs2
                    · cases hs2; simp at hjo
                    · split at hs2
                      case isFalse => cases hs2
                      rw [hg] at hs2
                      simp only at hs2
                      split at hs2
                      · rename_i r hr
                        cases hs2
                        exact cut_get hr j (by rw [← cut_len hr]; exact hjo)
                      · cases hs2
                  rw [hcut] at hx
                  obtain ⟨v, v1, v2⟩ := g5 _ _ hx
                  refine ⟨v, ?_, v2⟩
                  rw [List.append_assoc, List.getElem?_append_left (by simp; omega), List.getElem?_take, if_pos (by omega), Nat.add_assoc]
                  simpa using v1
                · rw [List.getElem?_append_right (by omega)] at hx
                  have hjn : j - old.length < us.length := by omega
                  have hu : us[j - old.length]? = some (us[j - old.length]'hjn) := by simp [hjn]
                  refine ⟨_, ?_, m3 _ _ _ hx hu⟩
                  rw [List.append_assoc, List.getElem?_append_right (by simp; omega), List.getElem?_append_left (by simp; omega), ← hu]
                  congr 1
                  simp; omega
            · refine .slc _ _ _ _ _ _ _ hF.has hfit (by simp) ⟨rfl, fun _ => by simp [upd_same]⟩ fun e1' ex' wc' fz' cs' hg' => ?_
              refine ⟨_, _, _, by rw [upd_same]; exact setRow_heap _ _ _ _ _ _ k2, ?_⟩
              simp only [List.size_toArray, hcarr, upd_same]; omega
          · obtain ⟨nc, w', r1, r2, r3, carr0', r4, r5, r6, r7⟩ := grow (by omega)
            refine ⟨_, _, r2, ?_⟩
            intro S H' low hF hS hval hs0 hdead
            have hnew : w'.heap[w.heap.size]? = some (.cells carr0' e1 (0, 0)) := by rw [r4]; simp
            refine ⟨(w.heap.size, 0), stp_fill (obj := .row e1 false 0 fz (old ++ new)) (p := (w.heap.size, 0)) h hS hval (fun j x hx => rb0 S hs0 hval j x hx) (fun i o g1 g2 => (sub i o g1 g2).1) hle0 hho0 (by simp [layH]) hF (hdd hdead)
              (fun i o g1 g2 => Nat.ne_of_lt (h.lt (sub i o g1 g2).1 g2)) (fun hl => absurd hl (Nat.lt_irrefl _)) (fun hr => absurd (h.res _ hr) (Nat.lt_irrefl _)) (fun b _ hb => ?_) (fun carr1 e2 fr hb => ?_) (by rw [r4]; simp) r3 ?_, ?_⟩
            · rw [r4, Array.getElem?_push]; simp [Nat.ne_of_lt hb]
            · have := (Array.getElem?_eq_some_iff.1 hb).1; omega
            · refine ⟨carr0', 0, 0, hnew, by simp at r6 ⊢; omega, by simp, Nat.zero_le _, fun j x hx => ?_⟩
              have hj := (List.getElem?_eq_some_iff.1 hx).1
              have hu : carr0'[j]? = some (carr0'[j]'(by omega)) := by simp [show j < carr0'.size by omega]
              exact ⟨_, by simpa using hu, r7 _ _ _ hx hu⟩
            · refine .slc _ _ _ _ _ _ _ hF.has r1 (by simp) ⟨rfl, fun _ => by simp [upd_same]⟩ fun e1' ex' wc' fz' cs' hg' => ?_
              exact ⟨carr0', _, _, by simpa [upd_same] using hnew, by simpa [upd_same] using r5⟩
      · cases hd

end Go.Proofs.YtobejienmopklaaGreatDoor.Ev

/- Slices, lengths, conversions. -/
namespace Go.Proofs.YtobejienmopklaaGreatDoor.Ev
set_option linter.unusedSimpArgs false
variable {P : Program} {ρ : Rho} {H : Heap} {w : World}

def OptR : Option Nat → Option Value → Prop
  | none, none => True
  | some n, some u => ∃ k, u = .int k (Int.ofNat n)
  | _, _ => False

theorem bound_ok {n y : Nat} {k : IntKind} {code : BoundsCode} (h : n ≤ y) : (Instr.sliceBound (.int k (Int.ofNat n)) y code).run P w = .ok n w := by
  simp [Instr.sliceBound, asIntOf, h]

theorem bounds_ok {lo hi mx : Option Nat} {vlo vhi vmx : Option Value} {b : Bool} {len cap l h : Nat} {clip c : Bool} (h1 : OptR lo vlo) (h2 : OptR hi vhi) (h3 : OptR mx vmx) (hlc : len ≤ cap)
    (hb : bounds lo hi mx len clip = some (l, h, c)) : ∃ m, (Instr.sliceBounds b len cap vlo vhi vmx).run P w = .ok (l, h, m) w ∧ l ≤ h ∧ h ≤ len ∧ h ≤ m ∧ m ≤ cap ∧
      (c = true → (mx.isSome = true ∨ (clip = true)) ∧ (mx = none → m = cap ∧ h = len) ∧ (mx.isSome = true → m = h)) := by
  unfold bounds at hb
  obtain ⟨hc, hb⟩ := cnd_some.1 hb
  simp only [Bool.and_eq_true, Nat.ble_eq] at hc
  obtain ⟨hc1, hc2⟩ := hc
  cases mx with
  | none =>
    simp at hb
    obtain ⟨rfl, rfl, rfl⟩ := hb
    have : vmx = none := by cases vmx <;> first | rfl | exact h3.elim
    subst this
    refine ⟨cap, ?_, hc1, hc2, by omega, Nat.le_refl _, fun hcc => ?_⟩
    · cases hi with
      | none =>
        have : vhi = none := by cases vhi <;> first | rfl | exact h2.elim
        subst this
        cases lo with
        | none =>
          have : vlo = none := by cases vlo <;> first | rfl | exact h1.elim
          subst this
          simp [Instr.sliceBounds]
        | some l =>
          cases vlo with
          | none => exact h1.elim
          | some u =>
            obtain ⟨k, rfl⟩ := h1
            simp only [Option.getD_some, Option.getD_none] at hc1 hc2
            simp [Instr.sliceBounds, bound_ok (P := P) (w := w) hc1, -Int.ofNat_eq_natCast]
      | some h =>
        cases vhi with
        | none => exact h2.elim
        | some u =>
          obtain ⟨k, rfl⟩ := h2
          simp only [Option.getD_some] at hc1 hc2
          have hcap : h ≤ cap := by omega
          cases lo with
          | none =>
            have : vlo = none := by cases vlo <;> first | rfl | exact h1.elim
            subst this
            simp [Instr.sliceBounds, bound_ok (P := P) (w := w) hcap, -Int.ofNat_eq_natCast]
          | some l =>
            cases vlo with
            | none => exact h1.elim
            | some u =>
              obtain ⟨k, rfl⟩ := h1
              simp only [Option.getD_some] at hc1
              simp [Instr.sliceBounds, bound_ok (P := P) (w := w) hcap, bound_ok (P := P) (w := w) hc1, -Int.ofNat_eq_natCast]
    · simp at hcc
      exact ⟨.inr hcc.1, fun _ => ⟨rfl, hcc.2⟩, fun hx => by simp at hx⟩
  | some m =>
    simp only at hb
    obtain ⟨hd, hb⟩ := cnd_some.1 hb
    simp only [Bool.and_eq_true, Nat.ble_eq] at hd
    obtain ⟨⟨hd1, hd2⟩, hd3⟩ := hd
    simp at hb
    obtain ⟨rfl, rfl, rfl⟩ := hb
    cases vmx with
    | none => exact h3.elim
    | some um =>
      obtain ⟨km, rfl⟩ := h3
      have hmc : m ≤ cap := by omega
      refine ⟨m, ?_, hc1, hc2, hd1, hmc, fun hcc => ?_⟩
      · cases hi with
        | none => simp at hd3
        | some h =>
          cases vhi with
          | none => exact h2.elim
          | some u =>
            obtain ⟨k, rfl⟩ := h2
            simp only [Option.getD_some] at hc1 hc2 hd1
            cases lo with
            | none =>
              have : vlo = none := by cases vlo <;> first | rfl | exact h1.elim
              subst this
              simp [Instr.sliceBounds, bound_ok (P := P) (w := w) hmc, bound_ok (P := P) (w := w) hd1, -Int.ofNat_eq_natCast]
            | some l =>
              cases vlo with
              | none => exact h1.elim
              | some u =>
                obtain ⟨k, rfl⟩ := h1
                simp only [Option.getD_some] at hc1
                simp [Instr.sliceBounds, bound_ok (P := P) (w := w) hmc, bound_ok (P := P) (w := w) hd1, bound_ok (P := P) (w := w) hc1, -Int.ofNat_eq_natCast]
      · simp at hcc
        exact ⟨.inl rfl, fun hx => by simp at hx, fun _ => hcc⟩

theorem slice_ok {t : TypeId} {x : AV} {ux : Value} {lo hi mx : Option Nat} {vlo vhi vmx : Option Value} {d : D} {S0 nid} (h : HR ρ H w) (hx : AVR ρ H w x ux) (h1 : OptR lo vlo) (h2 : OptR hi vhi) (h3 : OptR mx vmx)
    (hd : sliceA P t x lo hi mx H = some d) : ∃ u, (Instr.sliceAt t ux vlo vhi vmx).run P w = .ok u w ∧ Fin ρ H w w S0 nid u d := by
  cases x <;> simp only [sliceA] at hd <;> try (cases hd; done)
  · rename_i s
    split at hd
    case h_2 => cases hd
    rename_i hu
    split at hd
    case h_2 => cases hd
    rename_i l hh c hb
    split at hd
    case h_2 => cases hd
    rename_i r hr
    cases hd
    have : vmx = none := by cases vmx <;> first | rfl | exact h3.elim
    subst this
    cases hx with
    | str _ b hbb =>
      subst hbb
      have hl : (bytes b).length = b.size := by unfold bytes; rw [List.length_map]; rfl
      rw [hl] at hb
      obtain ⟨m, m1, m2, m3, m4, m5, m6⟩ := bounds_ok (P := P) (w := w) (b := false) h1 h2 (show OptR none none from trivial) (Nat.le_refl _) hb
      refine ⟨.string (b.extract l hh), by simp [Instr.sliceAt, Instr.slice, run_und hu, m1], fin_val h (.str _ _ ?_)⟩
      obtain ⟨q1, q2⟩ := cut_eq.1 hr
      subst q2
      unfold bytes
      rw [← List.map_drop, ← List.map_take]
      congr 1
      rw [ByteArray.data_extract, Array.toList_extract]
  · rename_i id off
    split at hd
    case h_2 => cases hd
    rename_i n e hu
    unfold sliceArr at hd
    obtain ⟨z, hz, hd⟩ := bnd_eq.1 hd
    split at hd
    case h_2 => cases hd
    rename_i e1 ex wc fz cs hg
    obtain ⟨hle, hd⟩ := cnd_some.1 hd
    simp only [Nat.ble_eq] at hle
    split at hd
    case h_2 => cases hd
    rename_i l hh c hb
    rw [Nat.now_eq, Nat.now_eq] at hd
    cases hd
    cases hx with
    | ref _ _ p p1 p2 =>
      obtain ⟨m, m1, m2, m3, m4, m5, m6⟩ := bounds_ok (P := P) (w := w) (b := false) h1 h2 h3 (Nat.le_refl _) hb
      refine ⟨.slice (some (if m = l then p else p.add (l * z))) (hh - l) (m - l), by simp [Instr.sliceAt, Instr.sureAddr, run_und hu, m1, run_size hz], fin_val h (.slc _ _ _ _ _ _ _ p1 (by omega) (fun hc => ?_) ⟨rfl, fun hc => ?_⟩ fun e ex wc fz cs hg' => ?_)⟩
      · obtain ⟨q1, q2, q3⟩ := m6 hc
        cases mx with
        | none => have := q2 rfl; omega
        | some mm => have := q3 rfl; omega
      · rw [if_neg (by omega), p2, addr_add, Nat.add_assoc]
      · obtain ⟨carr, lo', hi', g1, g2, _⟩ := h.row _ _ _ _ _ _ hg
        refine ⟨carr, _, _, g1, ?_⟩
        have : l * z + (m - l) * z = m * z := by rw [← Nat.add_mul]; congr 1; omega
        have := Nat.mul_le_mul_right z m5
        omega
  · rename_i id off len sz clip
    obtain ⟨e, he, hd⟩ := bnd_eq.1 hd
    obtain ⟨z, hz, hd⟩ := bnd_eq.1 hd
    obtain ⟨hq, hd⟩ := cnd_some.1 hd
    simp at hq
    subst hq
    split at hd
    case h_2 => cases hd
    rename_i l hh c hb
    rw [Nat.now_eq, Nat.now_eq] at hd
    cases hd
    have hut : P.underlying t = some (.slice e) := by
      unfold elemT at he
      split at he
      · cases he; assumption
      · cases he
    cases hx with
    | slc _ _ _ _ _ A cc p1 p2 p3 p4 p5 =>
      obtain ⟨m, m1, m2, m3, m4, m5, m6⟩ := bounds_ok (P := P) (w := w) (b := true) h1 h2 h3 p2 hb
      refine ⟨.slice (if m = l then A else A.map (·.add (l * z))) (hh - l) (m - l), by simp [Instr.sliceAt, Instr.slice, run_und hut, m1, run_size hz], fin_val h (.slc _ _ _ _ _ _ _ p1 (by omega) (fun hc => ?_) ⟨by split <;> simp [p4.1], fun hc => ?_⟩ fun e ex wc fz cs hg' => ?_)⟩
      · obtain ⟨q1, q2, q3⟩ := m6 hc
        cases mx with
        | none =>
          have h5 := q2 rfl
          rcases q1 with q1 | q1
          · simp at q1
          · have := p3 q1; omega
        | some mm => have := q3 rfl; omega
      · rw [if_neg (by omega), p4.2 (by omega)]
        simp [addr_add, Nat.add_assoc]
      · obtain ⟨carr, e', fr, g1, g2⟩ := p5 _ _ _ _ _ hg'
        refine ⟨carr, _, _, g1, ?_⟩
        have : l * z + (m - l) * z = m * z := by rw [← Nat.add_mul]; congr 1; omega
        have := Nat.mul_le_mul_right z m5
        omega
  · rename_i clip sz es
    obtain ⟨e, he, hd⟩ := bnd_eq.1 hd
    obtain ⟨z, hz, hd⟩ := bnd_eq.1 hd
    obtain ⟨hq, hd⟩ := cnd_some.1 hd
    split at hd
    case h_2 => cases hd
    rename_i l hh c hb
    split at hd
    case h_2 => cases hd
    rename_i r hr
    cases hd
    have hut : P.underlying t = some (.slice e) := by
      unfold elemT at he
      split at he
      · cases he; assumption
      · cases he
    have hrl := cut_len hr
    cases hx with
    | sl _ _ _ A cc b o us p1 p2 p3 p4 p5 p6 p7 =>
      obtain ⟨m, m1, m2, m3, m4, m5, m6⟩ := bounds_ok (P := P) (w := w) (b := true) h1 h2 h3 p1 hb
      have hget : ∀ (i : Nat) x, r[i]? = some x → es[l + i]? = some x := by
        intro i x hi
        rw [← cut_get hr i (by rw [← hrl]; exact (List.getElem?_eq_some_iff.1 hi).1)]; exact hi
      refine ⟨.slice (if m = l then A else A.map (·.add (l * z))) (hh - l) (m - l), by simp [Instr.sliceAt, Instr.slice, run_und hut, m1, run_size hz], fin_val h ?_⟩
      rw [← hrl]
      have hzsz : r ≠ [] → z = sz := by
        intro hr0
        simp at hq
        rcases hq with hq | hq
        · exact hq
        · exfalso; subst hq
          apply hr0
          apply List.eq_nil_of_length_eq_zero
          simp at m3; omega
      refine .sl _ _ _ _ _ b (o + l * sz) (fun i j => us (l + i) j) (by omega) ⟨fun hc => ?_, fun hz0 => by rw [p2.2.1 hz0]; split <;> rfl, fun hz0 => by have := p2.2.2 hz0; split <;> simp [this]⟩ (fun i x hi => p3 _ _ (hget i x hi)) (fun hr0 => ?_) (fun i x j a hi ha => ?_) (fun i x j a hi ha => p6 _ _ _ _ (hget i x hi) ha) (fun i x j a hi ha => p7 _ _ _ _ (hget i x hi) ha)
      · obtain ⟨q1, q2, q3⟩ := m6 hc
        cases mx with
        | none =>
          have h5 := q2 rfl
          rcases q1 with q1 | q1
          · simp at q1
          · have := p2.1 q1; omega
        | some mm => have := q3 rfl; omega
      · have hpos : 0 < r.length := List.length_pos_iff.2 hr0
        have hes : es ≠ [] := by intro h0; subst h0; simp at m3; omega
        obtain ⟨rfl, k2, k3⟩ := p4 hes
        refine ⟨?_, k2, k3⟩
        rw [if_neg (by omega), hzsz hr0]
        simp [addr_add]
      · have := p5 _ _ _ _ (hget i x hi) ha
        rw [Nat.add_mul] at this
        rw [← this]; congr 2; omega

theorem len_ok {t : TypeId} {ts : Array TypeId} {ty : TypeId} {x : AV} {ux : Value} {d : D} {S0 nid} (h : HR ρ H w) (hts : ts[0]? = some t) (hx : AVR ρ H w x ux) (hd : lenA P t x H = some d) :
    ∃ u, (Builtin.len_ ts ty #[ux]).run P w = .ok u w ∧ Fin ρ H w w S0 nid u d := by
  unfold lenA at hd
  split at hd
  · rename_i s hu
    rw [intA_eq] at hd
    cases hd
    cases hx with
    | str _ b hbb =>
      subst hbb
      have hl : (bytes b).length = b.size := by unfold bytes; rw [List.length_map]; rfl
      exact ⟨goInt b.size, by simp [Builtin.len_, hts, run_und hu], fin_val h (by rw [hl]; exact .int _ _)⟩
  · rename_i e id off n sz clip hu
    cases hd
    cases hx with
    | slc => exact ⟨goInt n, by simp [Builtin.len_, hts, run_und hu], fin_val h (.int _ _)⟩
  · rename_i e clip sz es hu
    rw [intA_eq] at hd
    cases hd
    cases hx with
    | sl => exact ⟨goInt es.length, by simp [Builtin.len_, hts, run_und hu], fin_val h (.int _ _)⟩
  · rename_i hu
    cases hd
    cases hx
    exact ⟨goInt 0, by simp [Builtin.len_, hts, run_und hu], fin_val h (.int _ _)⟩
  · rename_i id hu
    split at hd
    case h_2 => cases hd
    rename_i wc es cl hg
    rw [intA_eq] at hd
    cases hd
    obtain ⟨ces, m1, m2⟩ := h.es hg
    cases hx with
    | mref _ r h1 h2 =>
      have := h2 _ _ _ hg
      subst this
      refine ⟨goInt ces.size, by simp [Builtin.len_, hts, run_und hu, run_getMap m1], fin_val h ?_⟩
      have : es.length = ces.size := by simpa using m2.1.symm
      rw [this]; exact .int _ _
  · rename_i n e hu
    cases hd
    exact ⟨goInt n, by simp [Builtin.len_, hts, run_und hu], fin_val h (.int _ _)⟩
  · cases hd

end Go.Proofs.YtobejienmopklaaGreatDoor.Ev

/- Conversions, the least and the greatest, binary operations. -/
namespace Go.Proofs.YtobejienmopklaaGreatDoor.Ev
set_option linter.unusedSimpArgs false
variable {P : Program} {ρ : Rho} {H : Heap} {w : World}

theorem natsOf_cons {c : AV} {cs : List AV} {s : List Nat} (h : natsOf (c :: cs) = some s) : ∃ n r, c = .int .u8 (.ofNat n) ∧ natsOf cs = some r ∧ n < 256 ∧ s = n :: r := by
  cases c with
  | int k i =>
    cases i with
    | negSucc n => cases k <;> simp [natsOf] at h
    | ofNat n =>
      cases k <;> simp only [natsOf] at h <;> try (cases h; done)
      split at h
      case h_2 => cases h
      rename_i r hr
      obtain ⟨h1, h2⟩ := cnd_some.1 h
      cases h2
      exact ⟨n, r, rfl, hr, by simpa [Nat.blt_eq] using h1, rfl⟩
  | _ => simp [natsOf] at h

theorem bytes_loop {f : Value → ByteArray → Sem (ForInStep ByteArray)} (hf : ∀ (n : Int) r, f (.int .u8 n) r = pure (ForInStep.yield (r.push (UInt8.ofNat n.toNat)))) :
    ∀ (cs : List AV) (us : List Value) (s : List Nat) (acc : ByteArray), us.length = cs.length → (∀ (j : Nat) a u, cs[j]? = some a → us[j]? = some u → AVR ρ H w a u) → natsOf cs = some s →
    ∃ b : ByteArray, (forIn us acc f).run P w = .ok b w ∧ bytes b = bytes acc ++ s := by
  intro cs
  induction cs with
  | nil =>
    intro us s acc hl _ h
    have : us = [] := List.eq_nil_of_length_eq_zero hl
    subst this
    simp [natsOf] at h
    subst h
    exact ⟨acc, by simp, by simp⟩
  | cons c cs ih =>
    intro us s acc hl hr h
    cases us with
    | nil => simp at hl
    | cons u us =>
      have hc := hr 0 c u rfl rfl
      obtain ⟨n, r, rfl, hr', h1, rfl⟩ := natsOf_cons h
      cases hc
      obtain ⟨b, b1, b2⟩ := ih us r (acc.push (UInt8.ofNat n)) (by simpa using hl) (fun j a u ha hu => hr (j + 1) a u (by simpa using ha) (by simpa using hu)) hr'
      refine ⟨b, ?_, ?_⟩
      · rw [List.forIn_cons, hf]
        simpa using b1
      · rw [b2]
        have : bytes (acc.push (UInt8.ofNat n)) = bytes acc ++ [n] := by
          unfold bytes
          simp [ByteArray.push, Nat.mod_eq_of_lt h1]
        rw [this]; simp

theorem convert_ok {src dst : TypeId} {x : AV} {ux : Value} {d : D} {S0 nid} (h : HR ρ H w) (hx : AVR ρ H w x ux) (hd : convertA P src dst x H nid = some d) :
    ∃ u, (convert src dst ux).run P w = .ok u w ∧ Fin ρ H w w S0 nid u d := by
  unfold convertA at hd
  split at hd
  · rename_i sd k kk n hs hdst
    rw [intA_eq] at hd
    cases hd
    cases hx
    exact ⟨.int k (k.wrap n), by simp [convert, run_und hs, run_und hdst, Conv.intToInt], fin_val h (.int _ _)⟩
  · rename_i sd s hs hdst
    cases hd
    cases hx with
    | str _ b hb => exact ⟨.string b, by cases sd <;> simp [convert, run_und hs, run_und hdst], fin_val h (.str _ _ hb)⟩
  · rename_i xx e hs hdst _
    split at hd
    case h_2 => cases hd
    rename_i hu8
    obtain ⟨hsl, hd⟩ := cnd_some.1 hd
    split at hd
    case h_2 => cases hd
    rename_i n cs hcs
    obtain ⟨v, hv, hd⟩ := bnd_eq.1 hd
    split at hv
    case h_2 => cases hv
    rename_i s hs'
    cases hv
    cases hd
    obtain ⟨A, len, c, rfl, hlc⟩ := isSl_shape hx hsl
    obtain ⟨l1, us, f1, ⟨f2, f3⟩, f4⟩ := src_ok (P := P) h hx hcs
    have hln : n = len := by have := l1 w; simp [Builtin.lenOf] at this; exact this.symm
    subst hln
    have loop := fun f hf => bytes_loop (P := P) (w := w) (f := f) hf cs us.toList s ByteArray.empty (by simpa using f2) (fun j a u ha hu => f3 j a u ha (by simpa using hu)) hs'
    have f1' := f1 w rfl
    cases A with
    | none =>
      simp [Builtin.firstCells] at f1'
      subst f1'
      have hs0 : s = [] := by
        have : cs = [] := List.eq_nil_of_length_eq_zero (by simpa using f2.symm)
        subst this
        simp [natsOf] at hs'
        first | exact hs' | exact hs'.symm
      subst hs0
      exact ⟨.string .empty, by simp [convert, run_und hs, run_und hdst, run_und hu8, Conv.bytesToString], fin_val h (.str _ _ rfl)⟩
    | some ad =>
      simp only [Builtin.firstCells, Nat.mul_one] at f1'
      obtain ⟨b, b1, b2⟩ := loop (fun c r => match c with
        | .int .u8 n => pure (ForInStep.yield (r.push (UInt8.ofNat n.toNat)))
        | _ => (fun _ => ForInStep.yield r) <$> (stuck "bytesToString: byte expected" : Sem Unit)) (fun _ _ => rfl)
      have hb : bytes b = s := by rw [b2]; rfl
      refine ⟨.string b, ?_, fin_val h (.str _ _ hb)⟩
      simp [convert, run_und hs, run_und hdst, run_und hu8, Conv.bytesToString, f1']
      simp only [Array.forIn_toList] at b1
      exact congrArg (fun r => Result.andThen r fun a w' => Result.ok (Value.string a) w') b1
  · rename_i e hs hdst
    cases hd
    cases hx
    exact ⟨.pointer none, by simp [convert, run_und hs, run_und hdst, Conv.unsafePointer], fin_val h .nilp⟩
  · rename_i e id off hs hdst
    split at hd
    case h_2 => cases hd
    rename_i e0 ex wc fz cs hg
    obtain ⟨hc, hd⟩ := cnd_some.1 hd
    cases hd
    simp only [Bool.and_eq_true, Nat.blt_eq] at hc
    obtain ⟨hc1, hc2⟩ := hc
    split at hc2
    case h_2 => cases hc2
    rename_i sz hsz
    obtain ⟨carr, lo, hi, h1, h2, _⟩ := h.row _ _ _ _ _ _ hg
    obtain ⟨j, hj, hjs⟩ : ∃ j, P.info? e = some j ∧ j.size = sz + 1 := by
      unfold sizeT at hsz
      split at hsz
      · rename_i j hj; exact ⟨j, hj, by simpa using hsz⟩
      · cases hsz
    cases hx with
    | ref _ _ p p1 p2 =>
      subst p2
      exact ⟨_, Lib.run_to_unsafe (P := P) w ⟨(ρ id).1, (ρ id).2 + off, none⟩ hs hdst hj (by omega) (e := e0) (cells := carr.size) (by simp [World.shape?, h1]) (by simp; omega), fin_val h (.ref _ _ _ p1 rfl)⟩
  · rename_i e id off hs hdst
    split at hd
    case h_2 => cases hd
    rename_i e0 wc fz cs hg
    obtain ⟨hc, hd⟩ := cnd_some.1 hd
    cases hd
    simp only [Bool.and_eq_true] at hc
    obtain ⟨hc1, hc2⟩ := hc
    obtain ⟨carr, lo, hi, h1, h2, h3, _⟩ := h.row _ _ _ _ _ _ hg
    obtain ⟨h4, h5⟩ := h3 rfl
    obtain ⟨sz, hsz⟩ := Option.isSome_iff_exists.1 hc2
    obtain ⟨j, hj⟩ : ∃ j, P.info? e = some j := by
      unfold sizeT at hsz
      split at hsz
      · rename_i j hj; exact ⟨j, hj⟩
      · cases hsz
    cases hx with
    | ref _ _ p p1 p2 =>
      subst p2
      exact ⟨_, Lib.run_from_unsafe (P := P) w ⟨(ρ id).1, (ρ id).2 + off, none⟩ hs hdst hj (e := e0) (cells := carr.size) (by simp [World.shape?, h1]) (by rw [h4, h5]; simpa using hc1), fin_val h (.ref _ _ _ p1 rfl)⟩
  · cases hd

theorem min_ok {k kk : IntKind} {a b : Int} {ts : Array TypeId} {ty : TypeId} : (Builtin.min_ ts ty #[.int k a, .int kk b]).run P w = .ok (.int k (if b < a then b else a)) w := by
  simp [Builtin.min_, Builtin.min2]
theorem max_ok {k kk : IntKind} {a b : Int} {ts : Array TypeId} {ty : TypeId} : (Builtin.max_ ts ty #[.int k a, .int kk b]).run P w = .ok (.int k (if b > a then b else a)) w := by
  simp [Builtin.max_, Builtin.max2]

end Go.Proofs.YtobejienmopklaaGreatDoor.Ev

/- Capacity, append of zero values, bytes as a string, clear. -/
namespace Go.Proofs.YtobejienmopklaaGreatDoor.Ev
set_option linter.unusedSimpArgs false
variable {P : Program} {ρ : Rho} {H : Heap} {w : World}

theorem cap_ok {t : TypeId} {ts : Array TypeId} {ty : TypeId} {x : AV} {ux : Value} {d : D} {S0 nid} (h : HR ρ H w) (hts : ts[0]? = some t) (hx : AVR ρ H w x ux) (hd : capA P t x = some d) :
    ∃ u, (Builtin.cap_ ts ty #[ux]).run P w = .ok u w ∧ Fin ρ H w w S0 nid u d := by
  unfold capA at hd
  split at hd
  · rename_i e id off n sz hu
    cases hd
    cases hx with
    | slc _ _ _ _ _ A c h1 h2 h3 h4 h5 =>
      have := h3 rfl
      subst this
      exact ⟨goInt c, by simp [Builtin.cap_, hts, run_und hu], fin_val h (.int _ _)⟩
  · rename_i e sz es hu
    rw [intA_eq] at hd
    cases hd
    cases hx with
    | sl _ _ _ A c b o us h1 h2 =>
      have := h2.1 rfl
      subst this
      exact ⟨goInt es.length, by simp [Builtin.cap_, hts, run_und hu], fin_val h (.int _ _)⟩
  · cases hd

theorem sliceData_ok {ts : Array TypeId} {ty : TypeId} {x : AV} {ux : Value} {d : D} {S0 nid} (h : HR ρ H w) (hx : AVR ρ H w x ux) (hd : sliceDataA x = some d) :
    ∃ u, (Builtin.unsafeSliceData_ ts ty #[ux]).run P w = .ok u w ∧ Fin ρ H w w S0 nid u d := by
  unfold sliceDataA at hd
  split at hd
  · rename_i id off n sz clip
    rw [cnd_eq] at hd
    split at hd
    · cases hd
    rename_i hn
    cases hd
    cases hx with
    | slc _ _ _ _ _ A c h1 h2 h3 h4 h5 =>
      have hn' : n ≠ 0 := fun e => hn (by rw [e]; rfl)
      have hA := h4.2 (by omega)
      subst hA
      exact ⟨_, Lib.run_unsafeSliceData_row (P := P) w ts ty _ n c (by omega), fin_val h (.ref _ _ _ h1 rfl)⟩
  · cases hd
    cases hx with
    | sl _ _ _ A c b o us h1 h2 =>
      have := h2.2.1 rfl
      subst this
      exact ⟨_, Lib.run_unsafeSliceData_nil (P := P) w ts ty _ c, fin_val h .nilp⟩
  · cases hd

theorem appendZ_ok {t u ty : TypeId} {a x : AV} {ua ux : Value} {S0 nid} {d : D} (h : HR ρ H w) (hu : ∃ k, P.underlying u = some (.int k)) (ha : AVR ρ H w a ua) (hx : AVR ρ H w x ux) (hd : appendZ P t a x nid = some d) :
    ∃ r w', (Builtin.append_ #[t, u] ty #[ua, ux]).run P w = .ok r w' ∧ Fin ρ H w w' S0 nid r d := by
  unfold appendZ at hd
  split at hd
  case h_2 => cases hd
  rename_i sz n
  split at hd
  case h_2 => cases hd
  rename_i e he
  split at hd
  case h_2 => cases hd
  rename_i i hi
  split at hd
  case h_2 => cases hd
  rename_i z hz
  obtain ⟨hc, hd⟩ := cnd_some.1 hd
  simp only [Bool.and_eq_true, Nat.ble_eq, Nat.blt_eq, Nat.beq_eq] at hc
  obtain ⟨⟨⟨⟨⟨hc1, hc2⟩, hc3⟩, hc4⟩, hc5⟩, hc6⟩ := hc
  rw [Nat.now_eq] at hd
  obtain ⟨k, hu⟩ := hu
  have hut : P.underlying t = some (.slice e) := by
    unfold elemT at he
    split at he
    · cases he; assumption
    · cases he
  cases hx
  cases ha with
  | sl _ _ _ A c b o us h1 h2 =>
    have hc0 : c = 0 := h2.1 rfl
    subst hc0
    obtain ⟨zv, r1, hzi, r3⟩ := zeroT_ok hz
    have hzi := hzi i hi
    have hold : (Builtin.firstCells i.size 0 (.slice A 0 0)).run P w.drew = .ok ([] : List Value).toArray w.drew := by
      cases A with
      | none => rfl
      | some a =>
        have := run_loadCells (P := P) w.drew a 0 (fun _ => undef) (fun j hj => by omega)
        simpa [Builtin.firstCells] using this
    have hr := Lib.run_append_grow_zeros (P := P) w t u ty e i zv .i64 k hut hu hi hzi A 0 0 [] hold n hc1 hc2 (by omega) (by simp; omega) (by omega) (by
      have h2 := nextslicecap_le (show 0 < 0 + n by omega)
      have h3 := Nat.mul_le_mul_right i.bytes h2
      rw [Nat.mul_assoc] at h3
      simp at h3 ⊢
      omega)
    have hnc : 0 + n ≤ grownCap w (0 + n) 0 e := by unfold grownCap; simp [Question.cut]
    have hzc : zv.cells.size = i.size := by rw [← hc5]; exact ((r3 ρ H w).cells).1
    simp only [Nat.zero_add] at hr hnc
    refine ⟨_, _, hr, newRow_fin h rfl ⟨rfl, rfl, rfl⟩ ?_ ?_ hnc (by simp) ?_ (fun S hs _ j a ha => cells_rb (zero_rb hz S) (repL_get _ _ _ _ ha)) hd⟩
    · simp [repL_len, hc5, zeroCells_size, hzc]
    · intro j a v hja hjv
      have hz2 := zeros_ok (zc := zv.cells) (n := n) (m := n * zv.cells.size) (r3 ρ H w) (by rw [hc5, hzc]; exact Nat.le_refl _) (fun _ => rfl) j a v hja
      apply hz2
      have hlt := (List.getElem?_eq_some_iff.1 hja).1
      rw [repL_len, hc5] at hlt
      have hlt2 : j < (Builtin.zeroCells zv.cells n).size := by rw [zeroCells_size, hzc]; exact hlt
      simp only [Array.empty_append] at hjv
      rw [Array.getElem?_append_left hlt2] at hjv
      exact hjv
    · have e1 : grownCap w n 0 e * i.size = n * i.size + (grownCap w n 0 e - n) * i.size := by
        rw [← Nat.add_mul]; congr 1; omega
      simp [zeroCells_size, hzc]; omega

theorem liesAt_off {e : TypeId} (hc : P.cellsOf e = 1) (count off n : Nat) (hn : off + n ≤ count) : liesAt P P.depth e count off e n = true := by
  have hd : P.depth = (2 * (P.types.size + Made.depth) + 1) + 1 := rfl
  rw [hd]
  simp only [liesAt, Bool.or_eq_true]
  left
  rw [hd]
  have hm : off % 1 = 0 := Nat.mod_one _
  simp [rowAt, hc, hn, sameLayout, hm]

theorem run_unsafeString_at (pt it ty e : TypeId) (hp : P.underlying pt = some (.pointer e)) (hc : P.cellsOf e = 1) (g off cells : Nat) (hsh : w.shape? g = some (e, cells)) (l : List UInt8) (h0 : l ≠ []) (hn : off + l.length ≤ cells) (h63 : l.length ≤ 9223372036854775807)
    (hcell : ∀ j x, l[j]? = some x → w.cell? ((⟨g, off, none⟩ : Addr).add j) = some (.int .u8 x.toNat)) :
    (Builtin.unsafeString_ #[pt, it] ty #[.pointer (some ⟨g, off, none⟩), .int .i64 l.length]).run P w = .ok (.string ⟨l.toArray⟩) (w.freeze ⟨g, off, none⟩ l.length) := by
  have hl : l.length ≠ 0 := by simpa using h0
  have hlb := Lib.run_loadBytes (P := P) w l ⟨g, off, none⟩ .empty hcell
  have hlies := liesAt_off (P := P) hc (cells / P.cellsOf e) off l.length (by rw [hc]; simpa using hn)
  have h63' : ¬ (9223372036854775807 : Int) < (l.length : Int) := by omega
  have hdef : Builtin.unsafeString_ #[pt, it] ty #[.pointer (some ⟨g, off, none⟩), .int .i64 l.length] =
      (do
        let n ← asInt (.int .i64 l.length)
        if n < 0 then runtimePanic (.error "unsafe.String: len out of range")
        if n > IntKind.i64.max then unsupported (.unsafePointer "String: a length above the largest int")
        if n = 0 then pure (.string .empty)
        else if ← variablesAt ⟨g, off, none⟩ (← elemOf pt) n.toNat then do
          let s ← loadBytes ⟨g, off, none⟩ .empty n.toNat
          freeze ⟨g, off, none⟩ n.toNat
          pure (.string s)
        else unsupported (.unsafePointer "String: not so many bytes at ptr")) := rfl
  rw [hdef]
  have hmax : IntKind.i64.max = 9223372036854775807 := rfl
  have hneg : ¬ ((l.length : Int) < 0) := by omega
  have hz : ¬ ((l.length : Int) = 0) := by omega
  simp [asInt, asIntOf, hmax, h63', hneg, hl, variablesAt, hsh, elemOf, run_underlying hp, hlies, hlb]

theorem nats_bytes : ∀ (cs : List AV) (s : List Nat), natsOf cs = some s → ∃ l : List UInt8, l.map UInt8.toNat = s ∧ l.length = cs.length ∧ ∀ (j : Nat) x u, l[j]? = some x → (∀ a, cs[j]? = some a → AVR ρ H w a u) → u = .int .u8 x.toNat := by
  intro cs
  induction cs with
  | nil => intro s h; simp [natsOf] at h; subst h; exact ⟨[], rfl, rfl, by simp⟩
  | cons c cs ih =>
    intro s h
    obtain ⟨n, r, rfl, hr, h1, rfl⟩ := natsOf_cons h
    obtain ⟨l, l1, l2, l3⟩ := ih r hr
    refine ⟨UInt8.ofNat n :: l, by simp [l1, Nat.mod_eq_of_lt h1], by simp [l2], fun j x u hx hu => ?_⟩
    cases j with
    | zero =>
      simp at hx
      subst hx
      have := hu _ rfl
      cases this
      simp [Nat.mod_eq_of_lt h1]
    | succ j => exact l3 j x u (by simpa using hx) (fun a ha => hu a (by simpa using ha))

theorem unsafeStr_ok {t it ty : TypeId} {p n : AV} {up un : Value} {S0 nid} {d : D} (h : HR ρ H w) (hp : AVR ρ H w p up) (hn : AVR ρ H w n un) (hd : unsafeStrA P t p n H = some d) :
    ∃ u w', (Builtin.unsafeString_ #[t, it] ty #[up, un]).run P w = .ok u w' ∧ Fin ρ H w w' S0 nid u d := by
  unfold unsafeStrA at hd
  split at hd
  · cases hd
    cases hp; cases hn
    exact ⟨_, w, Lib.run_unsafeString_none (P := P) w t it ty none, fin_val h (.str _ _ rfl)⟩
  · rename_i id off n
    split at hd
    case h_2 => cases hd
    rename_i e ex wc fz cs hg
    obtain ⟨hc, hd⟩ := cnd_some.1 hd
    simp only [Bool.and_eq_true, Nat.beq_eq, Nat.ble_eq] at hc
    obtain ⟨⟨hc1, hc2⟩, hc3⟩ := hc
    split at hc2
    case h_2 => cases hc2
    rename_i e' hte
    have hee : e = e' := Nat.eq_of_beq_eq_true hc2
    subst hee
    split at hd
    case h_2 => cases hd
    rename_i r hr
    split at hd
    case h_2 => cases hd
    rename_i s hs
    rw [Nat.now_eq] at hd
    cases hd
    obtain ⟨carr, lo, hi, h1, h2, h3, h4, h5⟩ := h.row _ _ _ _ _ _ hg
    obtain ⟨l, l1, l2, l3⟩ := nats_bytes (ρ := ρ) (H := H) (w := w) r s hs
    have hrl := cut_len hr
    have hcut := (cut_eq.1 hr).1
    have hll : l.length = n + 1 := by omega
    cases hn
    cases hp with
    | ref _ _ p p1 p2 =>
      subst p2
      have hcell : ∀ j x, l[j]? = some x → w.cell? ((⟨(ρ id).1, (ρ id).2 + off, none⟩ : Addr).add j) = some (.int .u8 x.toNat) := by
        intro j x hx
        have hj := (List.getElem?_eq_some_iff.1 hx).1
        have ha : r[j]? = some (r[j]'(by omega)) := List.getElem?_eq_getElem _
        have ha2 := ha
        rw [cut_get hr j (by omega)] at ha2
        obtain ⟨v, v1, v2⟩ := h5 _ _ ha2
        have := l3 j x v hx (fun a h6 => by rw [ha] at h6; cases h6; exact v2)
        subst this
        rw [addr_add]
        simp [World.cell?, h1, Nat.add_assoc]
        simpa [Nat.add_assoc] using v1
      have hrun := run_unsafeString_at (P := P) (w := w) t it ty e hte hc1 (ρ id).1 ((ρ id).2 + off) carr.size (by simp [World.shape?, h1]) l (by intro h0; subst h0; simp at hll) (by omega) (by omega) hcell
      rw [hll] at hrun
      have hfr : (w.freeze ⟨(ρ id).1, (ρ id).2 + off, none⟩ (n + 1)).heap[(ρ id).1]? = some (.cells carr e (if lo == hi then ((ρ id).2 + off, (ρ id).2 + off + (n + 1)) else (min lo ((ρ id).2 + off), max hi ((ρ id).2 + off + (n + 1))))) := by
        unfold World.freeze
        rw [if_neg (by omega)]
        simp [Array.getElem?_modify, h1]
      have hother : ∀ b, b ≠ (ρ id).1 → (w.freeze ⟨(ρ id).1, (ρ id).2 + off, none⟩ (n + 1)).heap[b]? = w.heap[b]? := by
        intro b hb
        unfold World.freeze
        rw [if_neg (by omega)]
        simp [Array.getElem?_modify, Ne.symm hb]
      have hsame : Same w (w.freeze ⟨(ρ id).1, (ρ id).2 + off, none⟩ (n + 1)) := by
        unfold World.freeze
        rw [if_neg (by omega)]
        exact ⟨rfl, rfl, rfl⟩
      have hsize : (w.freeze ⟨(ρ id).1, (ρ id).2 + off, none⟩ (n + 1)).heap.size = w.heap.size := by
        unfold World.freeze
        rw [if_neg (by omega)]
        simp
      refine ⟨_, _, by simpa using hrun, fun low => ?_, ?_⟩
      · have st : ∀ f lo' hi', (if lo == hi then ((ρ id).2 + off, (ρ id).2 + off + (n + 1)) else (min lo ((ρ id).2 + off), max hi ((ρ id).2 + off + (n + 1)))) = (lo', hi') → f = max fz (off + (n + 1)) →
            Stp ρ H low w ρ (H.set id (.row e ex (Nat.succ wc) f cs)) (lowOf false id low) (w.freeze ⟨(ρ id).1, (ρ id).2 + off, none⟩ (n + 1)) := by
          intro f lo' hi' hlh hf
          rw [hlh] at hfr
          refine stp_row (hwc := Nat.lt_succ_self _) (carr' := carr) h hg hfr hother (by rw [hsize]; exact Nat.le_refl _) hsame (fun c1 e1 fr g1 => by rw [h1] at g1; cases g1; rfl) h2 (fun _ => rfl) ?_ (fun j a ha => h5 j a ha) (fun _ n hh => hh)
          subst hf
          split at hlh <;> cases hlh <;> omega
        exact st _ _ _ rfl rfl
      · exact .str _ _ (by unfold bytes; simpa using l1)
  · cases hd

theorem clear_ok {t ty : TypeId} {ts : Array TypeId} {x : AV} {ux : Value} {S0 nid} {d : D} (h : HR ρ H w) (hts : ts[0]? = some t) (hx : AVR ρ H w x ux) (hd : clearA P t x H = some d) :
    ∃ u w', (Builtin.clear_ ts ty #[ux]).run P w = .ok u w' ∧ Fin ρ H w w' S0 nid u d := by
  unfold clearA at hd
  split at hd
  case h_2 => cases hd
  rename_i id off n sz clip
  split at hd
  case h_2 => cases hd
  rename_i e he
  split at hd
  case h_2 => cases hd
  rename_i i z hi hz
  obtain ⟨hc, hd2⟩ := cnd_some.1 hd
  clear hd
  simp only [Bool.and_eq_true, Nat.beq_eq] at hc
  obtain ⟨rfl, hc2⟩ := hc
  have hut : P.underlying t = some (.slice e) := by
    unfold elemT at he
    split at he
    · cases he; assumption
    · cases he
  rw [cnd_eq] at hd2
  cases hx with
  | slc _ _ _ _ _ A c h1 h2 h3 h4 h5 =>
    split at hd2
    · rename_i hn
      have hn0 : n = 0 := Nat.eq_of_beq_eq_true hn
      subst hn0
      cases hd2
      refine ⟨Go.undef, w, ?_, fin_val h .undef⟩
      cases A <;> simp [Builtin.clear_, hts, run_und hut] <;> rfl
    · rename_i hn
      have hn0 : n ≠ 0 := fun e => hn (by rw [e]; rfl)
      have hA := h4.2 (by omega)
      subst hA
      obtain ⟨zv, r1, hzi, r3⟩ := zeroT_ok hz
      have hzc : zv.cells.size = i.size := by rw [← hc2]; exact ((r3 ρ H w).cells).1
      obtain ⟨w', s1, s2⟩ := writeRow_ok (P := P) (us := (Builtin.zeroCells zv.cells n).toList) (S0 := S0) (nid := nid) h (by simp [zeroCells_size, repL_len, hc2, hzc]) (fun j a u ha hu =>
        zeros_ok (zc := zv.cells) (n := n) (m := n * zv.cells.size) (r3 ρ H w) (by rw [hc2, hzc]; exact Nat.le_refl _) (fun _ => rfl) j a u ha (by rw [← Array.getElem?_toList]; exact hu)) (uv := Go.undef) (fun _ _ _ => .undef) hd2
      refine ⟨Go.undef, w', ?_, s2⟩
      obtain ⟨m, rfl⟩ : ∃ m, n = m + 1 := ⟨n - 1, by omega⟩
      simp [Builtin.clear_, hts, run_und hut, r1, s1]
      rfl

end Go.Proofs.YtobejienmopklaaGreatDoor.Ev

/- Binary operations; operands in lists. -/
namespace Go.Proofs.YtobejienmopklaaGreatDoor.Ev
set_option linter.unusedSimpArgs false
variable {P : Program} {C : Cfg} {ρ : Rho} {H : Heap} {w : World}

theorem guard_ok {op : BinOp} {t : TypeId} {X Y : Operand} {a b : AV} {x y : Value} (hx : AVR ρ H w a x) (hy : AVR ρ H w b y) (h : mayEq P t (isLit X || isLit Y) a b = true) :
    (eqGuard op t X Y x y).run P w = .ok () w := by
  cases op <;> first
    | rfl
    | (cases hx <;> cases hy <;> first
      | rfl
      | (cases X <;> cases Y <;> first | rfl | (simp [mayEq, isLit] at h; done))
      | (simp [mayEq] at h
         simp [eqGuard, h]))

theorem oth_eql {t : TypeId} {a b : AV} {x y : Value} {c : Bool} {n : Nat} (hx : AVR ρ H w a x) (hy : AVR ρ H w b y) (hn : ¬ ((∃ k i, a = .int k i) ∧ ∃ k i, b = .int k i)) (hs : ¬ ((∃ s, a = .str s) ∧ ∃ s, b = .str s))
    (h : eqA P (n + 1) t a b = some c) : binOp .eql t x y = (do pure (.bool (← Op.equal t x y))) ∧ binOp .neq t x y = (do pure (.bool (!(← Op.equal t x y)))) := by
  cases hx <;> cases hy <;> first
    | exact ⟨rfl, rfl⟩
    | (exact absurd ⟨⟨_, _, rfl⟩, ⟨_, _, rfl⟩⟩ hn)
    | (exact absurd ⟨⟨_, rfl⟩, ⟨_, rfl⟩⟩ hs)

theorem oth_ok {t : TypeId} {op : BinOp} {X Y : Operand} {a b v : AV} {x y : Value} (hx : AVR ρ H w a x) (hy : AVR ρ H w b y) (hn : ¬ ((∃ k i, a = .int k i) ∧ ∃ k i, b = .int k i)) (hs : ¬ ((∃ s, a = .str s) ∧ ∃ s, b = .str s))
    (h : othOp P (isLit X || isLit Y) op t a b = some v) : Gives P w ρ H (do eqGuard op t X Y x y; binOp op t x y) v := by
  cases op <;> simp only [othOp] at h <;> try (cases h; done)
  · obtain ⟨h1, h⟩ := cnd_some.1 h
    obtain ⟨c, h2, h⟩ := bnd_eq.1 h
    cases h
    have heq : (Op.equal t x y).run P w = .ok c w := eqA_ok 100 Op.maxDepth (by decide) _ _ _ _ _ _ h2 hx hy
    exact ⟨.bool c, by simp [guard_ok hx hy h1, (oth_eql hx hy hn hs h2).1, heq], .bool _⟩
  · obtain ⟨h1, h⟩ := cnd_some.1 h
    obtain ⟨c, h2, h⟩ := bnd_eq.1 h
    cases h
    have heq : (Op.equal t x y).run P w = .ok c w := eqA_ok 100 Op.maxDepth (by decide) _ _ _ _ _ _ h2 hx hy
    exact ⟨.bool (!c), by simp [guard_ok hx hy h1, (oth_eql hx hy hn hs h2).2, heq], .bool _⟩

theorem gives_guard {t : TypeId} {op : BinOp} {X Y : Operand} {a b v : AV} {x y : Value} (hx : AVR ρ H w a x) (hy : AVR ρ H w b y) (h : mayEq P t (isLit X || isLit Y) a b = true) (hg : Gives P w ρ H (binOp op t x y) v) :
    Gives P w ρ H (do eqGuard op t X Y x y; binOp op t x y) v := by
  obtain ⟨u, h1, h2⟩ := hg
  exact ⟨u, by simp [guard_ok hx hy h, h1], h2⟩

theorem binA_ok {t : TypeId} {op : BinOp} {X Y : Operand} {a b v : AV} {x y : Value} (hx : AVR ρ H w a x) (hy : AVR ρ H w b y) (h : binA C.P (isLit X || isLit Y) op t a b = some v) :
    Gives C.P w ρ H (do eqGuard op t X Y x y; binOp op t x y) v := by
  unfold binA at h
  by_cases hn : ((∃ k i, a = .int k i) ∧ ∃ k i, b = .int k i)
  · obtain ⟨⟨k, i, rfl⟩, k', i', rfl⟩ := hn
    simp only at h
    have hx' := hx
    have hy' := hy
    cases hx'; cases hy'
    exact gives_guard hx hy rfl (intOp_ok h)
  · by_cases hs : ((∃ s, a = .str s) ∧ ∃ s, b = .str s)
    · obtain ⟨⟨s, rfl⟩, s', rfl⟩ := hs
      simp only at h
      have hx' := hx
      have hy' := hy
      cases hx' with
      | str _ b1 e1 =>
        cases hy' with
        | str _ b2 e2 =>
          subst e1; subst e2
          exact gives_guard hx hy rfl (strOp_ok h)
    · refine oth_ok hx hy hn hs ?_
      rw [← h]
      cases a <;> cases b <;> first
        | rfl
        | (exact absurd ⟨⟨_, _, rfl⟩, ⟨_, _, rfl⟩⟩ hn)
        | (exact absurd ⟨⟨_, rfl⟩, ⟨_, rfl⟩⟩ hs)

/- ### lists of operands -/
/-- the arguments, abstract ones and values -/
def ArgsR (ρ : Rho) (H : Heap) (w : World) (as : List AV) (us : List Value) : Prop := us.length = as.length ∧ ∀ (j : Nat) a u, as[j]? = some a → us[j]? = some u → AVR ρ H w a u

theorem args_ok {env : Env} {a : Act} (h : ER C ρ H w env a.tmps) : ∀ (l : List Operand) (as : List AV), argsA C l env = some as → ArgsR ρ H w as (l.map a.eval) := by
  intro l
  induction l with
  | nil => intro as he; simp [argsA] at he; subst he; exact ⟨rfl, by simp⟩
  | cons x l ih =>
    intro as he
    simp only [argsA] at he
    split at he
    · rename_i v r h1 h2
      cases he
      obtain ⟨i1, i2⟩ := ih r h2
      refine ⟨by simpa using i1, fun j b u hb hu => ?_⟩
      cases j with
      | zero => simp at hb hu; subst hb; subst hu; exact evO_ok h h1
      | succ j => exact i2 j b u (by simpa using hb) (by simpa using hu)
    · cases he

theorem parts_ok {env : Env} {a : Act} (h : ER C ρ H w env a.tmps) : ∀ (l : List (Nat × Operand)) (as : List (Nat × AV)), partsA C l env = some as → PartsR ρ H w as (l.map fun (i, x) => (i, a.eval x)) := by
  intro l
  induction l with
  | nil => intro as he; simp [partsA] at he; subst he; exact ⟨rfl, by simp⟩
  | cons x l ih =>
    intro as he
    obtain ⟨i, x⟩ := x
    simp only [partsA] at he
    split at he
    · rename_i v r h1 h2
      cases he
      obtain ⟨i1, i2⟩ := ih r h2
      refine ⟨by simpa using i1, fun j i b i' u hb hu => ?_⟩
      cases j with
      | zero => simp at hb hu; obtain ⟨rfl, rfl⟩ := hb; obtain ⟨rfl, rfl⟩ := hu; exact ⟨rfl, evO_ok h h1⟩
      | succ j => exact i2 j i b i' u (by simpa using hb) (by simpa using hu)
    · cases he

theorem opt_ok {env : Env} {a : Act} (h : ER C ρ H w env a.tmps) {x : Option Operand} {n : Option Nat} (he : optA C x env = some n) : OptR n (x.map a.eval) := by
  cases x with
  | none => simp [optA] at he; subst he; trivial
  | some x =>
    simp only [optA] at he
    split at he
    · rename_i v hv
      split at he
      · rename_i m hm
        cases he
        exact natOf_ok (evO_ok h hv) hm
      · cases he
    · cases he

end Go.Proofs.YtobejienmopklaaGreatDoor.Ev

/- One operation: what the evaluator does with it is what the model does. -/
namespace Go.Proofs.YtobejienmopklaaGreatDoor.Ev
set_option linter.unusedSimpArgs false
variable {C : Cfg} {ρ : Rho} {H : Heap} {w : World}

def EnvRB (S : Nat → Prop) (env : Env) : Prop := ∀ t, RB S ((Tr.get env t).getD .undef)

theorem evO_rb {S : Nat → Prop} {env : Env} {tmps : Array Value} (h : ER C ρ H w env tmps) (hr : EnvRB S env) {x : Operand} {v : AV} (hv : evO C x env = some v) : RB S v := by
  cases x with
  | tmp t =>
    have : v = (Tr.get env t).getD .undef := by
      unfold evO at hv
      simp only at hv
      change Option.rec (motive := fun _ => Option AV) (some AV.undef) some (Tr.get env t) = some v at hv
      cases hg : Tr.get env t with
      | none => rw [hg] at hv; cases hv; rfl
      | some u => rw [hg] at hv; cases hv; rfl
    rw [this]; exact hr t
  | const c =>
    have := (absV_ok (ρ := ⟨fun _ => (0, 0), fun _ => False⟩) (H := .mk 0 []) (w := default) hv).rb
    exact this.mono fun i hi => absurd (Heap.lt_of_has hi) (Nat.not_lt_zero _)
  | global g =>
    cases hc : C.glob g with
    | none => simp [evO, hc] at hv
    | some cs =>
      simp [evO, hc] at hv; subst hv
      have := (h.glob g cs hc).rb
      cases this with
      | iptr _ hh => exact .iptr _ hh
  | func f =>
    unfold evO at hv
    cases hv
    exact .fn f [] [] (by simp) (by simp)

theorem args_rb {S : Nat → Prop} {env : Env} {tmps : Array Value} (h : ER C ρ H w env tmps) (hr : EnvRB S env) : ∀ (l : List Operand) (as : List AV), argsA C l env = some as → ∀ (j : Nat) a, as[j]? = some a → RB S a := by
  intro l
  induction l with
  | nil => intro as he; simp [argsA] at he; subst he; simp
  | cons x l ih =>
    intro as he
    simp only [argsA] at he
    split at he
    · rename_i v r h1 h2
      cases he
      intro j b hb
      cases j with
      | zero => simp at hb; subst hb; exact evO_rb h hr h1
      | succ j => exact ih r h2 j b (by simpa using hb)
    · cases he
theorem parts_rb {S : Nat → Prop} {env : Env} {tmps : Array Value} (h : ER C ρ H w env tmps) (hr : EnvRB S env) : ∀ (l : List (Nat × Operand)) (as : List (Nat × AV)), partsA C l env = some as → ∀ (j : Nat) i a, as[j]? = some (i, a) → RB S a := by
  intro l
  induction l with
  | nil => intro as he; simp [partsA] at he; subst he; simp
  | cons x l ih =>
    intro as he
    obtain ⟨i, x⟩ := x
    simp only [partsA] at he
    split at he
    · rename_i v r h1 h2
      cases he
      intro j i' b hb
      cases j with
      | zero => simp at hb; obtain ⟨rfl, rfl⟩ := hb; exact evO_rb h hr h1
      | succ j => exact ih r h2 j i' b (by simpa using hb)
    · cases he

def Nx (n : Next) (u : Value) : Prop := n = .value u ∨ (n = .skip ∧ u = Go.undef)

def KindOK (C : Cfg) (ρ : Rho) (H : Heap) (w : World) (env : Env) (run : Sem Next) : Kind → Prop
  | .pure f => ∀ v, f env = some v → ∃ u, run.run C.P w = .ok (.value u) w ∧ AVR ρ H w v u
  | .gen f => ∀ nid d, f env H nid = some d → ∃ nx u w', run.run C.P w = .ok nx w' ∧ Nx nx u ∧ Fin ρ H w w' (EnvRB · env) nid u d
  | .call f => ∀ fid args, f env = some (fid, args) → ∃ vals, ArgsR ρ H w args vals ∧ run.run C.P w = (callFunc fid vals.toArray).run C.P w
  | .pan f => ∀ v, f env = some v → ∃ u, run.run C.P w = .halt (.panic u) w ∧ AVR ρ H w v u

theorem bad_ok {env : Env} {run : Sem Next} : KindOK C ρ H w env run bad := fun v h => by cases h

theorem one_ok {env : Env} {a : Act} {run : Sem Next} {x : Operand} {g : AV → Option AV} (hE : ER C ρ H w env a.tmps) (h : ∀ v r, AVR ρ H w v (a.eval x) → g v = some r → ∃ u, run.run C.P w = .ok (.value u) w ∧ AVR ρ H w r u) :
    KindOK C ρ H w env run (one (evO C x) g) := by
  intro r hr
  obtain ⟨v, h1, h2⟩ := bnd_eq.1 hr
  exact h v r (evO_ok hE h1) h2
theorem two_ok {env : Env} {a : Act} {run : Sem Next} {x y : Operand} {g : AV → AV → Option AV} (hE : ER C ρ H w env a.tmps)
    (h : ∀ v v' r, AVR ρ H w v (a.eval x) → AVR ρ H w v' (a.eval y) → g v v' = some r → ∃ u, run.run C.P w = .ok (.value u) w ∧ AVR ρ H w r u) : KindOK C ρ H w env run (two (evO C x) (evO C y) g) := by
  intro r hr
  obtain ⟨v, h1, h2⟩ := bnd_eq.1 hr
  obtain ⟨v', h3, h4⟩ := bnd_eq.1 h2
  exact h v v' r (evO_ok hE h1) (evO_ok hE h3) h4
theorem oneG_ok {env : Env} {a : Act} {run : Sem Next} {x : Operand} {g : AV → Heap → Nat → Option D} (hE : ER C ρ H w env a.tmps)
    (h : ∀ v nid d, AVR ρ H w v (a.eval x) → (∀ S, EnvRB S env → RB S v) → g v H nid = some d → ∃ nx u w', run.run C.P w = .ok nx w' ∧ Nx nx u ∧ Fin ρ H w w' (EnvRB · env) nid u d) : KindOK C ρ H w env run (oneG (evO C x) g) := by
  intro nid d hr
  obtain ⟨v, h1, h2⟩ := bnd_eq.1 hr
  exact h v nid d (evO_ok hE h1) (fun S hS => evO_rb hE hS h1) h2
theorem twoG_ok {env : Env} {a : Act} {run : Sem Next} {x y : Operand} {g : AV → AV → Heap → Nat → Option D} (hE : ER C ρ H w env a.tmps)
    (h : ∀ v v' nid d, AVR ρ H w v (a.eval x) → AVR ρ H w v' (a.eval y) → g v v' H nid = some d → ∃ nx u w', run.run C.P w = .ok nx w' ∧ Nx nx u ∧ Fin ρ H w w' (EnvRB · env) nid u d) :
    KindOK C ρ H w env run (twoG (evO C x) (evO C y) g) := by
  intro nid d hr
  obtain ⟨v, h1, h2⟩ := bnd_eq.1 hr
  obtain ⟨v', h3, h4⟩ := bnd_eq.1 h2
  exact h v v' nid d (evO_ok hE h1) (evO_ok hE h3) h4
theorem threeG_ok {env : Env} {a : Act} {run : Sem Next} {x y z : Operand} {g : AV → AV → AV → Heap → Nat → Option D} (hE : ER C ρ H w env a.tmps)
    (h : ∀ v v' v'' nid d, AVR ρ H w v (a.eval x) → AVR ρ H w v' (a.eval y) → AVR ρ H w v'' (a.eval z) → g v v' v'' H nid = some d → ∃ nx u w', run.run C.P w = .ok nx w' ∧ Nx nx u ∧ Fin ρ H w w' (EnvRB · env) nid u d) :
    KindOK C ρ H w env run (threeG (evO C x) (evO C y) (evO C z) g) := by
  intro nid d hr
  obtain ⟨v, h1, h2⟩ := bnd_eq.1 hr
  obtain ⟨v', h3, h4⟩ := bnd_eq.1 h2
  obtain ⟨v'', h5, h6⟩ := bnd_eq.1 h4
  exact h v v' v'' nid d (evO_ok hE h1) (evO_ok hE h3) (evO_ok hE h5) h6

/-- a value of the model's, from a run that gives one -/
theorem nxv {P : Program} {w w' : World} {s : Sem Value} {u : Value} {S0 nid d} (h1 : s.run P w = .ok u w') (h2 : Fin ρ H w w' S0 nid u d) :
    ∃ nx u w', (do pure (Next.value (← s)) : Sem Next).run P w = .ok nx w' ∧ Nx nx u ∧ Fin ρ H w w' S0 nid u d :=
  ⟨.value u, u, w', by simp [h1], .inl rfl, h2⟩
theorem nxu {P : Program} {w w' : World} {s : Sem Unit} {S0 nid d} (h1 : s.run P w = .ok () w') (h2 : Fin ρ H w w' S0 nid Go.undef d) :
    ∃ nx u w', (do s; pure Next.skip : Sem Next).run P w = .ok nx w' ∧ Nx nx u ∧ Fin ρ H w w' S0 nid u d :=
  ⟨.skip, Go.undef, w', by simp [h1], .inr ⟨rfl, rfl⟩, h2⟩
theorem vv {P : Program} {w : World} {s : Sem Value} {v : AV} (h : Gives P w ρ H s v) : ∃ u, (do pure (Next.value (← s)) : Sem Next).run P w = .ok (.value u) w ∧ AVR ρ H w v u := by
  obtain ⟨u, h1, h2⟩ := h
  exact ⟨u, by simp [h1], h2⟩

end Go.Proofs.YtobejienmopklaaGreatDoor.Ev

/- Each kind of operation. -/
namespace Go.Proofs.YtobejienmopklaaGreatDoor.Ev
set_option linter.unusedSimpArgs false
variable {C : Cfg} {ρ : Rho} {H : Heap} {w : World}

theorem builtin_ok {b : Builtin} {ts : Array TypeId} {ty : TypeId} {cs : Array Bool} {args : List AV} {us : List Value} {nid : Nat} {d : D} {S0 : (Nat → Prop) → Prop} (hH : HR ρ H w) (ha : ArgsR ρ H w args us)
    (hS : ∀ S, S0 S → ∀ (j : Nat) a, args[j]? = some a → RB S a) (hd : builtinA C.P b ts.toList args H nid = some d) :
    ∃ nx u w', (builtin b ts ty cs us.toArray).run C.P w = .ok nx w' ∧ Nx nx u ∧ Fin ρ H w w' S0 nid u d := by
  have one : ∀ {a : AV}, args = [a] → ∃ u, us = [u] ∧ AVR ρ H w a u := by
    intro a e
    subst e
    obtain ⟨h1, h2⟩ := ha
    match us, h1 with
    | [u], _ => exact ⟨u, rfl, h2 0 a u rfl rfl⟩
  have two : ∀ {a b : AV}, args = [a, b] → ∃ u v, us = [u, v] ∧ AVR ρ H w a u ∧ AVR ρ H w b v := by
    intro a b e
    subst e
    obtain ⟨h1, h2⟩ := ha
    match us, h1 with
    | [u, v], _ => exact ⟨u, v, rfl, h2 0 a u rfl rfl, h2 1 b v rfl rfl⟩
  cases b <;> simp only [builtinA] at hd <;> try (cases hd; done)
  case cap =>
    cases hts : ts.toList with
    | nil => rw [hts] at hd; cases hd
    | cons t ts' =>
    rw [hts] at hd
    simp only at hd
    split at hd
    case h_2 => cases hd
    rename_i x
    obtain ⟨ux, rfl, h1⟩ := one rfl
    obtain ⟨r, r1, r2⟩ := cap_ok (P := C.P) (ty := ty) (S0 := S0) (nid := nid) hH (by rw [← Array.getElem?_toList, hts]; rfl) h1 hd
    exact nxv r1 r2
  case unsafeSliceData =>
    split at hd
    case h_2 => cases hd
    rename_i x
    obtain ⟨ux, rfl, h1⟩ := one rfl
    obtain ⟨r, r1, r2⟩ := sliceData_ok (P := C.P) (ts := ts) (ty := ty) (S0 := S0) (nid := nid) hH h1 hd
    exact nxv r1 r2
  case unsafeString =>
    cases hts : ts.toList with
    | nil => rw [hts] at hd; cases hd
    | cons t ts' =>
    rw [hts] at hd
    cases ts' with
    | nil => cases hd
    | cons it ts2 =>
    cases ts2 with
    | cons _ _ => cases hd
    | nil =>
    simp only at hd
    split at hd
    case h_2 => cases hd
    rename_i x y
    obtain ⟨ux, uy, rfl, h1, h2⟩ := two rfl
    have hts' : ts = #[t, it] := by
      apply Array.toList_inj.1; simpa using hts
    subst hts'
    obtain ⟨r, w', r1, r2⟩ := unsafeStr_ok (P := C.P) (it := it) (ty := ty) (S0 := S0) (nid := nid) hH h1 h2 hd
    exact nxv r1 r2
  case clear =>
    cases hts : ts.toList with
    | nil => rw [hts] at hd; cases hd
    | cons t ts' =>
    rw [hts] at hd
    simp only at hd
    split at hd
    case h_2 => cases hd
    rename_i x
    obtain ⟨ux, rfl, h1⟩ := one rfl
    obtain ⟨r, w', r1, r2⟩ := clear_ok (P := C.P) (ty := ty) (S0 := S0) (nid := nid) hH (by rw [← Array.getElem?_toList, hts]; rfl) h1 hd
    exact nxv r1 r2
  case append =>
    rw [cnd_eq] at hd
    split at hd
    case isFalse =>
      rw [cnd_eq] at hd
      split at hd
      case isFalse => cases hd
      rename_i _ hint
      unfold isInt at hint
      split at hint
      case h_2 => cases hint
      rename_i t u hts
      rw [hts] at hd
      simp only at hd
      have hk : ∃ k, C.P.underlying u = some (.int k) := by
        split at hint
        · rename_i k h; exact ⟨k, h⟩
        · cases hint
      split at hd
      case h_2 => cases hd
      rename_i x y
      obtain ⟨ux, uy, rfl, h1, h2⟩ := two rfl
      have hts' : ts = #[t, u] := by
        apply Array.toList_inj.1; simpa using hts
      subst hts'
      obtain ⟨r, w', r1, r2⟩ := appendZ_ok (P := C.P) (ty := ty) (S0 := S0) hH hk h1 h2 hd
      exact nxv r1 r2
    rename_i hsrc
    unfold isSrc at hsrc
    split at hsrc
    case h_2 => cases hsrc
    rename_i t u hts
    rw [hts] at hd
    simp only at hd
    have hk : (∃ e', C.P.underlying u = some (.slice e')) ∨ C.P.underlying u = some .string := by
      split at hsrc
      · rename_i e h; exact .inl ⟨e, h⟩
      · rename_i h; exact .inr h
      · cases hsrc
    split at hd
    case h_2 => cases hd
    rename_i x y
    obtain ⟨ux, uy, rfl, h1, h2⟩ := two rfl
    have hts' : ts = #[t, u] := by
      apply Array.toList_inj.1; simpa using hts
    subst hts'
    obtain ⟨r, w', r1, r2⟩ := append_ok (P := C.P) (ty := ty) (S0 := S0) hH hk h1 h2 (fun S hs => ⟨hS S hs 0 x rfl, hS S hs 1 y rfl⟩) hd
    exact nxv r1 r2
  case len =>
    cases hts : ts.toList with
    | nil => rw [hts] at hd; cases hd
    | cons t ts' =>
    rw [hts] at hd
    simp only at hd
    split at hd
    case h_2 => cases hd
    rename_i x
    obtain ⟨ux, rfl, h1⟩ := one rfl
    have ht : ts[0]? = some t := by
      rw [← Array.getElem?_toList, hts]; rfl
    obtain ⟨r, r1, r2⟩ := len_ok (P := C.P) (ty := ty) (S0 := S0) (nid := nid) hH ht h1 hd
    exact nxv r1 r2
  case max =>
    split at hd
    case h_2 => cases hd
    rename_i k i k' j
    cases hd
    obtain ⟨ux, uy, rfl, h1, h2⟩ := two rfl
    cases h1; cases h2
    exact nxv max_ok (fin_val hH (.int _ _))
  case min =>
    split at hd
    case h_2 => cases hd
    rename_i k i k' j
    cases hd
    obtain ⟨ux, uy, rfl, h1, h2⟩ := two rfl
    cases h1; cases h2
    exact nxv min_ok (fin_val hH (.int _ _))

theorem call_ok {c : Call} {env : Env} {a : Act} {dst : Option Tmp} {ty : TypeId} {pos : String} {after : Array Edge} {g : Option (Nat × Bool)} (hE : ER C ρ H w env a.tmps) (hH : HR ρ H w) :
    KindOK C ρ H w env (execOp a.eval ⟨dst, .call c, ty, pos, after, g⟩) (kind C (.call c)) := by
  have hargs : ∀ as, argsA C c.args.toList env = some as → ArgsR ρ H w as (c.args.map a.eval).toList := fun as has => by
    have := args_ok hE c.args.toList as has
    simpa using this
  simp only [kind]
  split
  · rename_i b hc
    intro nid d hd
    obtain ⟨as, h1, h2⟩ := bnd_eq.1 hd
    obtain ⟨nx, u, w', r1, r2, r3⟩ := builtin_ok (ty := ty) (cs := c.args.map fun | .const _ => true | _ => false) (S0 := (EnvRB · env)) hH (hargs as h1) (fun S hS => args_rb hE hS _ as h1) h2
    refine ⟨nx, u, w', ?_, r2, r3⟩
    simp only [execOp, resolve, hc, Sem.run_bind, Sem.run_pure, Result.andThen_ok, invoke]
    rw [Array.toArray_toList] at r1
    exact r1
  · rename_i fid hc
    have hrun : (execOp a.eval ⟨dst, .call c, ty, pos, after, g⟩).run C.P w = (callFunc fid (c.args.map a.eval).toList.toArray).run C.P w := by
      rw [Array.toArray_toList]
      simp only [execOp, resolve, hc, Sem.run_bind, Sem.run_pure, Result.andThen_ok, invoke]
      simp [Act.eval, Deferred.ofValue, invoke]
    split
    · rename_i p hp
      intro v hv
      obtain ⟨as, h1, h2⟩ := bnd_eq.1 hv
      obtain ⟨q1, q2⟩ := hargs _ h1
      obtain ⟨u, r1, r2⟩ := hE.prim fid p hp ρ H w as _ v q1 q2 h2
      exact ⟨u, by rw [hrun]; exact r1, r2⟩
    · intro fid' as' hr
      obtain ⟨as, h1, h2⟩ := bnd_eq.1 hr
      cases h2
      exact ⟨_, hargs _ h1, hrun⟩
  · rename_i x hx hc
    intro fid' as' hr
    obtain ⟨as, h1, h2⟩ := bnd_eq.1 hr
    obtain ⟨fv, h3, h4⟩ := bnd_eq.1 h2
    have hf := evO_ok hE h3
    cases fv <;> simp only [target] at h4 <;> try (cases h4; done)
    rename_i fid first cap
    cases h4
    generalize hu : a.eval x = ux at hf
    cases hf with
    | fn _ _ _ fs cs k1 k2 k3 k4 =>
      obtain ⟨m1, m2⟩ := hargs as h1
      refine ⟨fs.toList ++ (c.args.map a.eval).toList ++ cs.toList, ⟨by simp at m1 ⊢; omega, fun j b u hb hv => ?_⟩, ?_⟩
      · simp at m1
        rcases Nat.lt_or_ge j first.length with q | q
        · rw [List.append_assoc, List.getElem?_append_left q] at hb
          rw [List.append_assoc, List.getElem?_append_left (by simp; omega)] at hv
          exact k3 j b u hb (by simpa using hv)
        · rw [List.append_assoc, List.getElem?_append_right q] at hb
          rw [List.append_assoc, List.getElem?_append_right (by simp; omega)] at hv
          simp only [Array.length_toList, k1] at hv
          rcases Nat.lt_or_ge (j - first.length) as.length with q2 | q2
          · rw [List.getElem?_append_left q2] at hb
            rw [List.getElem?_append_left (by simp; omega)] at hv
            exact m2 _ b u hb hv
          · rw [List.getElem?_append_right q2] at hb
            rw [List.getElem?_append_right (by simp; omega)] at hv
            have e : (Array.map a.eval c.args).toList.length = as.length := by simp; omega
            rw [e] at hv
            exact k4 _ b u hb (by simpa using hv)
      · simp only [execOp, resolve, hc, Sem.run_bind, hu, Deferred.ofValue, Sem.run_pure, Result.andThen_ok, invoke]
        congr 2
        simp
  · exact bad_ok

theorem kind_ok {o : Oper} {env : Env} {a : Act} (hE : ER C ρ H w env a.tmps) (hH : HR ρ H w) : KindOK C ρ H w env (execOp a.eval o) (kind C o.op) := by
  obtain ⟨dst, op, ty, pos, after, g⟩ := o
  cases op
  case move x => intro v hv; exact ⟨a.eval x, rfl, evO_ok hE hv⟩
  case assign x => intro v hv; exact ⟨a.eval x, rfl, evO_ok hE hv⟩
  case pick c x y =>
    intro v hv
    simp only at hv
    split at hv
    case h_2 => cases hv
    rename_i t ht
    have hc := evO_ok hE ht
    generalize hu : a.eval c = uc at hc
    cases hc
    cases t with
    | true =>
      rw [cnd_true] at hv
      exact ⟨a.eval x, by simp [execOp, hu, asBool], evO_ok hE hv⟩
    | false =>
      rw [cnd_false] at hv
      exact ⟨a.eval y, by simp [execOp, hu, asBool], evO_ok hE hv⟩
  case alloc e =>
    intro nid d hd
    obtain ⟨u, w', h1, h2⟩ := alloc_ok (P := C.P) (S0 := (EnvRB · env)) hH hd
    exact nxv h1 h2
  case box e x => exact oneG_ok hE fun v nid d h1 h2 h3 => let ⟨u, w', r1, r2⟩ := box_ok (P := C.P) hH h1 h2 h3; nxv r1 r2
  case build t ps =>
    intro v hv
    obtain ⟨z, h1, hv⟩ := bnd_eq.1 hv
    obtain ⟨l, h2, hv⟩ := bnd_eq.1 hv
    obtain ⟨cs, h3, hv⟩ := bnd_eq.1 hv
    cases hv
    have := parts_ok hE ps.toList l h2
    exact vv (build_ok h1 (by simpa using this) h3)
  case buildSlice t n ps =>
    intro nid d hd
    obtain ⟨l, h2, hd⟩ := bnd_eq.1 hd
    have := parts_ok hE ps.toList l h2
    obtain ⟨u, w', r1, r2⟩ := buildSlice_ok (P := C.P) (S0 := (EnvRB · env)) (ps := ps.map fun (i, x) => (i, a.eval x)) hH (by simpa using this) (fun S hS => parts_rb hE hS _ l h2) hd
    exact nxv r1 r2
  case load t x => exact oneG_ok hE fun v nid d h1 h2 h3 => let ⟨u, r1, r2⟩ := load_ok (P := C.P) hH h1 h3; nxv r1 r2
  case store t x y => exact twoG_ok hE fun v v' nid d h1 h2 h3 => let ⟨w', r1, r2⟩ := store_ok (P := C.P) hH h1 h2 h3; nxu r1 r2
  case nilCheck x => exact one_ok hE fun v r h1 h2 => let ⟨r1, r2⟩ := nil_ok (C := C) h1 rfl h2; ⟨_, r1, r2⟩
  case binOp op t x y f => exact two_ok hE fun v v' r h1 h2 h3 => vv (binA_ok h1 h2 h3)
  case unOp op t x => exact one_ok hE fun v r h1 h2 => vv (unA_ok h1 h2)
  case convert s d x => exact oneG_ok hE fun v nid d h1 h2 h3 => let ⟨u, r1, r2⟩ := convert_ok (P := C.P) hH h1 h3; nxv r1 r2
  case makeInterface t x => exact one_ok hE fun v r h1 h2 => vv (iface_ok h1 h2)
  case makeFunc fn as bs =>
    cases fn
    case func f =>
      intro v hv
      obtain ⟨l1, h1, hv⟩ := bnd_eq.1 hv
      obtain ⟨l2, h2, hv⟩ := bnd_eq.1 hv
      cases hv
      obtain ⟨q1, q2⟩ := args_ok hE as.toList l1 h1
      obtain ⟨q3, q4⟩ := args_ok hE bs.toList l2 h2
      refine ⟨.func (.func f) (as.map a.eval) (bs.map a.eval), by simp [execOp, Instr.makeFunc], .fn _ _ _ _ _ (by simpa using q1) (by simpa using q3) (fun j b u hb hu => q2 j b u hb (by simpa using hu)) (fun j b u hb hu => q4 j b u hb (by simpa using hu))⟩
    all_goals exact bad_ok
  case makeMap t r =>
    cases r with
    | none =>
      intro nid d hd
      obtain ⟨u, w', r1, r2⟩ := makeMap_ok (P := C.P) (t := t) (r := none) (S0 := (EnvRB · env)) hH (by simp) hd
      exact nxv r1 r2
    | some x =>
      refine oneG_ok hE fun v nid d h1 h2 h3 => ?_
      split at h3
      case h_2 => cases h3
      rename_i kv k n hkv
      have h1' := h1
      generalize hu : a.eval x = ux at h1'
      cases h1'
      obtain ⟨u, w', r1, r2⟩ := makeMap_ok (P := C.P) (t := t) (r := some (a.eval x)) (S0 := (EnvRB · env)) hH (fun u hu' => by cases hu'; exact ⟨⟨kv, hkv⟩, _, _, hu⟩) h3
      exact nxv r1 r2
  case makeSlice t l c => exact twoG_ok hE fun v v' nid d h1 h2 h3 => let ⟨u, w', r1, r2⟩ := makeSlice_ok (P := C.P) hH h1 h2 h3; nxv r1 r2
  case slice t x lo hi mx =>
    intro nid d hd
    obtain ⟨v, h1, hd⟩ := bnd_eq.1 hd
    obtain ⟨l, h2, hd⟩ := bnd_eq.1 hd
    obtain ⟨h', h3, hd⟩ := bnd_eq.1 hd
    obtain ⟨m, h4, hd⟩ := bnd_eq.1 hd
    obtain ⟨u, r1, r2⟩ := slice_ok (P := C.P) (S0 := (EnvRB · env)) (nid := nid) hH (evO_ok hE h1) (opt_ok hE h2) (opt_ok hE h3) (opt_ok hE h4) hd
    exact nxv r1 r2
  case fieldAddr s x f => exact one_ok hE fun v r h1 h2 => vv (fieldAddr_ok h1 h2)
  case field s x f => exact one_ok hE fun v r h1 h2 => vv (field_ok h1 h2)
  case indexAddr t x i => exact two_ok hE fun v v' r h1 h2 h3 => vv (indexAddr_ok h1 h2 h3)
  case index t x i => exact two_ok hE fun v v' r h1 h2 h3 => vv (index_ok h1 h2 h3)
  case lookup t m k c => exact twoG_ok hE fun v v' nid d h1 h2 h3 => let ⟨u, r1, r2⟩ := lookup_ok (P := C.P) hH h1 h2 h3; nxv r1 r2
  case mapUpdate t m k x => exact threeG_ok hE fun v v' v'' nid d h1 h2 h3 h4 => let ⟨w', r1, r2⟩ := update_ok (P := C.P) hH h1 h2 h3 h4; nxu r1 r2
  case insert t m k x => exact threeG_ok hE fun v v' v'' nid d h1 h2 h3 h4 => let ⟨w', r1, r2⟩ := update_ok (P := C.P) hH h1 h2 h3 h4; nxu r1 r2
  case mapEntry t m k => exact twoG_ok hE fun v v' nid d h1 h2 h3 => let ⟨u, w', r1, r2⟩ := entry_ok (P := C.P) hH h1 h2 h3; nxv r1 r2
  case entryStore t m s x => exact threeG_ok hE fun v v' v'' nid d h1 h2 h3 h4 => let ⟨w', r1, r2⟩ := entryStore_ok (P := C.P) (t := t) hH h1 h2 h3 h4; nxu r1 r2
  case extract t i => exact one_ok hE fun v r h1 h2 => vv (extract_ok h1 h2)
  case call c => exact call_ok hE hH
  case panic x =>
    intro v hv
    simp only at hv
    split at hv
    case h_2 => cases hv
    rename_i t v' ht
    cases hv
    have hx := evO_ok hE ht
    generalize hu : a.eval x = ux at hx
    cases hx with
    | iface _ _ u h1 => exact ⟨.iface t u, by simp [execOp, Instr.panic, hu, goPanic], .iface _ _ _ h1⟩
  all_goals exact bad_ok

end Go.Proofs.YtobejienmopklaaGreatDoor.Ev
