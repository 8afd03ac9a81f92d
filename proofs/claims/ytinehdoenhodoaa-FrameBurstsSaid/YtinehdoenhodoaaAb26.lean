import Derived.Test.YtinehdoenhodoaaAb25
import Derived.WideShapes
/-! Rows of rows of bytes; strings. -/
set_option linter.unusedVariables false
set_option linter.unusedSimpArgs false
namespace Go.Ab
/-- A slice of slices of bytes. -/
def BL (H : AH) (v : AV) (ls : List (List Int)) : Prop := ∃ vs, SL H 1 v vs ∧ vs.length = ls.length ∧ ∀ i, i < ls.length → ∀ x, vs[i]? = some x → B8 H x (ls.getD i [])
section
variable {H H' : AH} {v : AV} {ls : List (List Int)} {ap : AP}
theorem BL.keep (h : BL H v ls) (c : Chg [] H H') : BL H' v ls := by
  obtain ⟨vs, h1, h2, h3⟩ := h
  exact ⟨vs, h1.keep c, h2, fun i hi x hx => (h3 i hi x hx).keep c⟩
theorem BL.form (h : BL H v ls) : ∃ a c s, v = .slice a ls.length c s := by
  obtain ⟨vs, h1, h2, h3⟩ := h
  obtain ⟨a, c, s, rfl⟩ := h1.form1
  exact ⟨a, c, s, by rw [h2]⟩
theorem BL.get (h : BL H v ls) {i : Nat} (hi : i < ls.length) : ∃ b o c l z, v = .slice (some (b, o)) ls.length c 1 ∧ rowOf H b = some l ∧ l[o + i]? = some z ∧ B8 H z (ls.getD i []) := by
  obtain ⟨vs, h1, h2, h3⟩ := h
  obtain ⟨b, o, c, l, rfl, r, e⟩ := h1.get1 (i := i) (by omega)
  have hz : vs[i]? = some vs[i] := List.getElem?_eq_getElem (by omega)
  exact ⟨b, o, c, l, vs[i], by rw [h2], r, by rw [e, hz], h3 i hi _ hz⟩
theorem ar_bl {m : Nat} {t e u : Nat} {ti te tu : TI} {al : List AV} (h : AR ap m H t al) (ht : ap.ty t = some ti) (htd : ti.td = .slice e) (he : ap.ty e = some te) (hed : te.td = .slice u) (hes : te.sz = 1) (hu : ap.ty u = some tu) (hud : tu.td = .int .u8) (hus : tu.sz = 1) :
    ∃ v ls, al = [v] ∧ BL H v ls ∧ ∀ b ∈ ls, Byt b := by
  obtain ⟨v, es, m', rfl, h1, h2⟩ := ar_slice h ht htd he
  rw [hes] at h1
  obtain ⟨l, g1, g2⟩ := list_choose (R := fun x (b : List Int) => ∃ y, x = [y] ∧ B8 H y b ∧ Byt b) es fun x hx => by
    obtain ⟨y, b, e1, e2, e3⟩ := ar_bytes (h2 x hx).2 he hed hu hud hus
    exact ⟨b, y, e1, e2, e3⟩
  have hfl : es.flatten.length = es.length := by
    have := flatten_len es (fun x hx => (h2 x hx).1)
    rw [hes] at this
    omega
  refine ⟨v, l, rfl, ⟨es.flatten, h1, by omega, fun i hi x hx => ?_⟩, fun b hb => ?_⟩
  · have hes' : es[i]? = some es[i] := List.getElem?_eq_getElem (by omega)
    have hli : l[i]? = some l[i] := List.getElem?_eq_getElem hi
    obtain ⟨y, e1, e2, _⟩ := g2 i _ _ hes' hli
    have hg := flatten_get (sz := 1) Nat.one_pos es (fun x hx => by rw [(h2 x hx).1, hes]) i 0 (by omega)
    rw [Nat.mul_one, Nat.add_zero, hes'] at hg
    simp [e1] at hg
    have hg2 : es.flatten[i]? = some y := by rw [← hg]
    rw [hx] at hg2
    cases hg2
    simpa [List.getD_eq_getElem?_getD, hi] using e2
  · obtain ⟨i, hi⟩ := List.getElem?_of_mem hb
    have hil : i < l.length := (List.getElem?_eq_some_iff.1 hi).1
    obtain ⟨y, _, _, e3⟩ := g2 i _ _ (List.getElem?_eq_getElem (by omega : i < es.length)) hi
    exact e3
end
theorem strN_cat (a b : List Int) : strN a ++ strN b = strN (a ++ b) := by
  apply Go.WideShapes.bytes_inj
  simp [strN_data]
end Go.Ab
