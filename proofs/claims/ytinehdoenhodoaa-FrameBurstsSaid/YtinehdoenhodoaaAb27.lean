import Derived.Test.YtinehdoenhodoaaAb26
/-! Loops over functions: what stays, one rule for both ways; rows of a slice at once. -/
set_option linter.unusedVariables false
set_option linter.unusedSimpArgs false
namespace Go.Ab
section
variable {l : Nat} {H H' : AH}
theorem get_ls {b : Nat} {cs : List AV} {m : Md} (h : H[b]? = some (.cells cs m)) (g : Chg [] H H' ∨ LS l H H') : H'[b]? = some (.cells cs m) := by
  rcases g with g | g
  · exact g.get h (by simp)
  · exact g.get h
theorem chg_ls {F : List Nat} {H0 : AH} (h : Chg F H0 H) (hl : H0.length ≤ l) (g : Chg [] H H' ∨ LS l H H') : Chg F H0 H' := by
  rcases g with g | g
  · exact h.tr g
  · exact g.chg h hl
theorem sl_ls {sz : Nat} {v : AV} {cs : List AV} (h : SL H sz v cs) (g : Chg [] H H' ∨ LS l H H') : SL H' sz v cs := by
  rcases g with g | g
  · exact h.keep g
  · exact g.sl h
theorem mine_ls {sz : Nat} {v : AV} {cs : List AV} (h : Mine H sz v cs) (g : Chg [] H H' ∨ LS l H H') : Mine H' sz v cs := by
  rcases g with g | g
  · exact h.keep g
  · exact g.mine h
theorem loop_lt (h : isLoop H[l]?) : l < H.length := by
  rcases Nat.lt_or_ge l H.length with h' | h'
  · exact h'
  · rw [List.getElem?_eq_none h'] at h; exact h.elim
end
theorem set_row {H : AH} {p b : Nat} {r : List AV} (h : rowOf H b = some r) (hn : p ≠ b) (X : AB) : rowOf (H.set p X) b = some r :=
  (Chg.set H p X).row h (by simp; omega)
theorem Chg.set_new {H0 H : AH} {F : List Nat} (c : Chg F H0 H) {p : Nat} (hp : H0.length ≤ p) (X : AB) : Chg F H0 (H.set p X) := c.trans (.set _ _ _) (by simp; omega)
/-- A slice of single cells, its row at once. -/
theorem SL.all1 {H : AH} {v : AV} {cs : List AV} (h : SL H 1 v cs) (h0 : cs ≠ []) : ∃ b o c r, v = .slice (some (b, o)) cs.length c 1 ∧ rowOf H b = some r ∧ o + cs.length ≤ r.length ∧ ∀ i, i < cs.length → r[o + i]? = cs[i]? := by
  cases h with
  | nil c s => exact absurd rfl h0
  | at_ b o n c l cs hz h1 h2 h3 h4 =>
    have hn : n = cs.length := by rw [← h3]; simp; omega
    subst hn
    refine ⟨b, o, c, l, rfl, h1, by omega, fun i hi => ?_⟩
    rw [← h3, List.getElem?_take_of_lt (by omega), List.getElem?_drop]
end Go.Ab
