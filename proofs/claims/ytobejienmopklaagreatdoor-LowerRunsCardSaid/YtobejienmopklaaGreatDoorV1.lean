/- LowerRuns: what the laid variable holds. Conditions: none beyond the card's own. -/
import Derived.Test.YtobejienmopklaaGreatDoorL2
import Derived.Test.YtobejienmopklaaGreatDoorRows
import Derived.MakeChecks
import Derived.OpenShut
import Derived.LaidMore
import Derived.FnData
import Derived.Stop.Joined
/- What the laid variable holds that 'LowerRuns' reads. -/
namespace Go.Proofs.YtobejienmopklaaGreatDoor.Ev
open Go.Proofs.YtobejienmopklaaGreatDoor
abbrev lrLaid : List (String × DataW Unit) := [("internal/strconv.uint64pow10", Rows.laid_internal_strconv_uint64pow10), ("math/bits.deBruijn32tab", Rows.laid_math_bits_deBruijn32tab), ("math/bits.deBruijn64tab", Rows.laid_math_bits_deBruijn64tab), ("strings.asciiSpace", Rows.laid_strings_asciiSpace), ("unicode.White_Space", Rows.laid_unicode_White_Space), ("strconv.ErrSyntax", Rows.laid_strconv_ErrSyntax), ("strconv.ErrRange", Rows.laid_strconv_ErrRange)]
def spaceZ : List Int := (List.range 256).map fun i => if (9 ≤ i ∧ i ≤ 13) ∨ i = 32 then 1 else 0
theorem spaceZ_len : spaceZ.length = 256 := by kernel_rfl
theorem spaces_eq : spaces = spaceZ.map fun n => .int .u8 n := by kernel_rfl
theorem laid_space : (Rows.laid_strings_asciiSpace : DataW Unit) = .agg (spaceZ.map fun n => .lit (.int .u8 n)) := by kernel_rfl
theorem plainLaid (P : Program) (w : World) : laidMetH P lrLaid w = laidMet P lrLaid w := MakeChecks.laidMetH_plain _ _ _ (by kernel_rfl)
theorem g4 : Proofs.Tryz.prog.globalNamed "strings.asciiSpace" = some 4 := by kernel_rfl
theorem g4t : (Proofs.Tryz.prog.globals[4]?).map (·.type) = some 459 := by kernel_rfl
theorem u459 : Proofs.Tryz.prog.underlying 459 = some (.array 256 5) := by kernel_rfl
theorem u5 : Proofs.Tryz.prog.underlying 5 = some (.int .u8) := by kernel_rfl
theorem c5 : Proofs.Tryz.prog.cellsOf 5 = 1 := by kernel_rfl

theorem space_cell {W : World} (h : laidMetH Proofs.Tryz.prog lrLaid W) (r : Nat) (hr : r < 256) : W.cell? ⟨4, r, none⟩ = some (.int .u8 (spaceZ.getD r 0)) := by
  rw [plainLaid] at h
  obtain ⟨ps, ⟨_, _, _, _, _, _, _, _, _, _, ⟨_, _, _, _, _, _, _, _, _, _, ⟨_, _, _, _, _, _, _, _, _, _, ⟨g, t, cs, fuel, p, q, hg, ht, hv, hd, _, _⟩, _⟩, _⟩, _⟩, _, _⟩ := h
  obtain rfl := Option.some.inj (g4.symm.trans hg)
  obtain rfl := Option.some.inj (g4t.symm.trans ht)
  rw [laid_space] at hd
  obtain ⟨xs, m, _, ex, _, hl, hel⟩ := DataW.trod_array u459 hd
  have hE := hel r hr
  rw [c5, Nat.mul_one, List.getElem?_eq_getElem (by omega)] at hE
  obtain ⟨z, e1, e2, _⟩ := DataW.trod_int u5 hE
  have hlen := spaceZ_len
  generalize spaceZ = Z at *
  have e3 : (xs.map (·.1)) = Z.map fun n => .lit (.int .u8 n) := (DataW.agg.inj (Prod.mk.inj ex).1).symm
  have e4 : (xs.map (·.1))[r]? = (Z.map fun n => (DataW.lit (.int .u8 n) : DataW Unit))[r]? := by rw [e3]
  rw [List.getElem?_map, List.getElem?_map, List.getElem?_eq_getElem (by omega : r < xs.length), List.getElem?_eq_getElem (by omega : r < Z.length), e2] at e4
  have hz : z = Z.getD r 0 := by
    simp only [Option.map_some, Option.some.injEq, DataW.lit.injEq, Lit.int.injEq, true_and] at e4
    rw [e4, List.getD, List.getElem?_eq_getElem (by omega : r < Z.length)]; rfl
  rw [World.var?_cell hg hv r, ← hz]
  have : cs.toList[r]? = some (.int .u8 z) := by
    have h0 : ((cs.toList.drop r).take 1)[0]? = some (.int .u8 z) := by rw [e1]; rfl
    simpa using h0
  simpa using this

/-- nothing is owned at the start -/
def rhoZ : Rho := ⟨fun _ => (0, 0), fun _ => False⟩
theorem lr_glob {W : World} (h : laidMetH Proofs.Tryz.prog lrLaid W) (hs : 4 < W.heap.size) : GlobOK lr rhoZ (.mk 0 []) W := by
  intro g cs hg
  have hg' : cnd (Nat.beq g 4) (some spaces) none = some cs := hg
  obtain ⟨h1, h2⟩ := cnd_some.1 hg'
  obtain rfl := Nat.eq_of_beq_eq_true h1
  cases h2
  have cell : ∀ (j : Nat) a, spaces[j]? = some a → j < 256 ∧ a = .int .u8 (spaceZ.getD j 0) := fun j a ha => by
    have hlen := spaceZ_len
    rw [spaces_eq] at ha
    generalize spaceZ = Z at *
    rw [List.getElem?_map] at ha
    have hj : j < Z.length := by
      rcases Nat.lt_or_ge j Z.length with h | h
      · exact h
      · rw [List.getElem?_eq_none h] at ha; simp at ha
    rw [List.getElem?_eq_getElem hj] at ha
    simp only [Option.map_some, Option.some.injEq] at ha
    exact ⟨by omega, by rw [← ha, List.getD, List.getElem?_eq_getElem hj]; rfl⟩
  refine .iptr _ 4 0 (fun j => .int .u8 (spaceZ.getD j 0)) (fun ho => ?_) hs (fun j a ha => ?_) (fun j a ha => ?_) (fun j a ha => ?_)
  · rcases ho with ho | ⟨_, _, ho, _⟩
    · exact ho
    · exact absurd (show (none : Option AO) = some _ from ho) (by simp)
  · rw [Nat.zero_add]; exact space_cell h j (cell j a ha).1
  · rw [(cell j a ha).2]; exact .int _ _
  · rw [(cell j a ha).2]; exact .int _ _
end Go.Proofs.YtobejienmopklaaGreatDoor.Ev
