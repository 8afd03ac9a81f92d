import Derived.Test.YtinehdoenhodoaaA8
/-! scans. -/
set_option linter.unusedVariables false
set_option linter.unusedSimpArgs false
set_option maxHeartbeats 4000000
set_option maxRecDepth 100000
namespace Go.Proofs.Ytinehdoenhodoaa.T
open Go Go.Ab
theorem BB.chg {H H' : AH} {v : AV} {ls : List (List Int)} {F : List Nat} (h : BB H v ls) (g : Chg F H H') (hF : ∀ i ∈ F, H.length ≤ i) : BB H' v ls := by
  obtain ⟨vs, h1, h2, h3⟩ := h
  have g' : Chg [] H H' := g.mono (fun i hi => .inr (hF i hi))
  exact ⟨vs, h1.keep g', h2, fun i hi x hx => (h3 i hi x hx).keep g'⟩
theorem BB.chg2 {H0 H H' : AH} {v : AV} {ls : List (List Int)} {F : List Nat} (h : BB H0 v ls) (g : Chg [] H0 H) (g' : Chg F H H') (hF : ∀ i ∈ F, H0.length ≤ i) : BB H' v ls :=
  h.chg (g.trans g' (fun i hi => .inr (hF i hi)) : Chg [] H0 H') (by simp)
theorem scans_ok {H : AH} {v : AV} {bs : List Int} (h : B8 H v bs) (hb : Byt bs) (hl : bs.length ≤ 10000000000000) {k : Nat} (hk : bs.length + 60 < k) :
    Hx (callA ap k (.func 15 [] []) [v] 0 H) fun r => Chg [] H r.2 ∧ r.1 = .bool true := by
  obtain ⟨k, rfl⟩ : ∃ k', k = k' + 3 := ⟨k - 3, by omega⟩
  rw [hx_call fn15 rfl]
  simp [f15, b15]
  have c0 : Chg [] H (H ++ [.cells [.bool false] .rw]) := .app _ _
  refine Hx.mapp (next_ok (h.keep c0) hb (by omega) (by omega)) ?_
  rintro ⟨r1, H1⟩ ⟨c1, x1, rfl, s1, _⟩
  simp only at c1 s1
  simp
  refine Hx.mapp (ref_ok ((h.keep c0).keep c1) hb (by omega) (by omega)) ?_
  rintro ⟨r2, H2⟩ ⟨c2, x2, rfl, s2, _⟩
  simp only at c2 s2
  simp
  refine Hx.mapp (records_ok (((h.keep c0).keep c1).keep c2) hb hl (by omega)) ?_
  rintro ⟨r3, H3⟩ ⟨c3, x, y, rfl, sx, sy⟩
  simp only at c3 sx sy
  obtain ⟨vs, sv, hvl, hve⟩ := sy
  obtain ⟨ax, cx, zx, rfl⟩ := sx.form1
  obtain ⟨ay, cy, zy, rfl⟩ := sv.form1
  simp only [List.length_map, List.length_range] at sx hvl hve
  rw [hvl] at sv ⊢
  have b0 : (H3 ++ [.cells [.slice ax (nrec bs) cx zx] .rw, .cells [.slice ay (nrec bs) cy zy] .rw])[H.length]? = some (.cells [.bool false] .rw) := (((c1.tr c2).tr c3).tr (.app _ _)).get (by simp) (by simp)
  have c4 : Chg [] H3 (H3 ++ [.cells [.slice ax (nrec bs) cx zx] .rw, .cells [.slice ay (nrec bs) cy zy] .rw]) := .app _ _
  have g9 : (H3 ++ [.cells [.slice ax (nrec bs) cx zx] .rw, .cells [.slice ay (nrec bs) cy zy] .rw])[H3.length]? = some (.cells [.slice ax (nrec bs) cx zx] .rw) := by simp
  have g10 : (H3 ++ [.cells [.slice ax (nrec bs) cx zx] .rw, .cells [.slice ay (nrec bs) cy zy] .rw])[H3.length + 1]? = some (.cells [.slice ay (nrec bs) cy zy] .rw) := by simp
  simp [rowRw]
  generalize (H3 ++ [AB.cells [.slice ax (nrec bs) cx zx] .rw, .cells [.slice ay (nrec bs) cy zy] .rw]) = H4 at *
  have hbx := nxt_byt hb
  have q := strN_beq hbx hbx
  have c03 : Chg [] H H3 := ((c0.tr c1).tr c2).tr c3
  have l03 := c03.1
  simp [toStr_b8 (((s1.keep c2).keep c3).keep c4), toStr_b8 ((s2.keep c3).keep c4), q]
  refine Hx.mapp (whole_ok ((h.keep c03).keep c4) hb hl (by omega)) ?_
  rintro ⟨r5, H5⟩ ⟨c5, rfl⟩
  simp only at c5
  simp [rowRw]
  have c6 : Chg [] H4 (H5 ++ [.cells [.int .i64 0] .rw]) := c5.tr (.app _ _)
  refine Hx.mapp (walk_ok ((h.keep c03).keep (c4.tr c6)) (by omega)) ?_
  rintro ⟨g, H6⟩ ⟨c7, c, rfl, hcl, hw⟩
  simp
  have hcell : H6[H5.length]? = some (.cells [.int .i64 0] .rw) := c7.get (by simp) (by simp)
  have c46 : Chg [] H4 H6 := c6.tr c7
  simp only at c7 hw
  have hle := c7.1
  have l34 := c4.1
  have l45 := c5.1
  have l46 := c46.1
  simp at hle hcl hw
  have hnp := nrec_pos (bs := bs) (Nat.le_refl _)
  have p9 := c46.get g9 (by simp)
  have p10 := c46.get g10 (by simp)
  have p2 := c46.get b0 (by simp)
  have px := sx.keep (c4.tr c46)
  have py := sv.keep (c4.tr c46)
  have bx := sx.lt
  have by_ := sv.lt
  have n9 := lt_of_get g9
  have n10 := lt_of_get g10
  refine hx_range (walkA bs) (walkI c (H5.length + 1) bs) (fun j H' => Chg [H5.length] H6 H' ∧ H'[H5.length]? = some (.cells [.int .i64 (j : Nat)] .rw) ∧ walkI c (H5.length + 1) bs H') (fun _ _ => False) (n := nrec bs) rfl (walk1_goes hb (by omega) (by omega))
    (fun j Ha Hb ⟨a, b, c⟩ g => ⟨chg_ls a (by simp) g, get_ls b g, walkI_ls c g⟩) (fun _ _ _ h => h.elim) (fun _ _ h => h.2.2) (fun j Ha Hb a ⟨x, e, hx⟩ g => ⟨x, e, g.sl hx⟩) (fun j Ha a ⟨x, e, hx⟩ => by rw [e]; rfl) ⟨.refl, by simpa using hcell, hw⟩ ?_ ?_ (fun _ _ _ h => h.elim)
  · rintro j hj Ha a ⟨i1, i2, i3⟩ ⟨x, rfl, hx⟩ H1' ⟨d1, d2, d3⟩ ⟨x', e, hx'⟩ hl1 hl0 hd
    cases e
    obtain ⟨az, cz, sz, rfl⟩ := hx'.len8
    simp [as15_0, setL]
    intro ms
    simp [bd15_0]
    refine hx_drawn dc15_10 fun Hd cd _ _ => ?_
    have cdd := d1.tr cd
    have hj' : ¬ (nrec bs : Int) ≤ j := by omega
    have hj'' : (j : Int) < nrec bs := by omega
    have u12 := rowOf_rw (cd.get d2 (by simp))
    have u9 := rowOf_rw (cdd.get p9 (by simp; omega))
    have u10 := rowOf_rw (cdd.get p10 (by simp; omega))
    obtain ⟨bx', ox, cx', lx, ex, rx, vx⟩ := (px.chg cdd (fun i hi => by have := bx i hi; simp; omega)).get1 (i := j) (by simpa using hj)
    obtain ⟨by', oy, cy', ly, ey, ry, vy⟩ := (py.chg cdd (fun i hi => by have := by_ i hi; simp; omega)).get1 (i := j) (by omega)
    simp only [List.length_map, List.length_range] at ex vx
    rw [hvl] at ey
    cases ex; cases ey
    have vx' : lx[ox + j]? = some (.int .i64 (pos bs j)) := by rw [vx]; simp [hj]
    obtain ⟨z, hz⟩ : ∃ z, vs[j]? = some z := ⟨_, List.getElem?_eq_getElem (by omega)⟩
    rw [hz] at vy
    have hbj : B8 H3 z (rcd bs j) := by simpa [List.getD_eq_getElem?_getD, hj] using hve j hj z hz
    have tz := toStr_b8 ((hbj.keep (c4.tr c46)).chg cdd (fun i hi => by have := hbj.lt i hi; simp; omega))
    have tx := toStr_b8 (hx'.keep cd)
    have q2 := strN_beq (rcd_byt hb hj) (rcd_byt hb hj)
    have w : IntKind.i64.wrap ((j : Int) + 1) = (j : Int) + 1 := wrap_i64 (by omega) (by omega)
    have hlt := lt_of_get (cd.get d2 (by simp))
    have lHd := cd.1
    have l6 := d1.1
    simp only at hl1 hd
    have hdl : H5.length ≠ H6.length := by omega
    have hdl2 : H5.length ≠ H6.length + 1 := by omega
    obtain ⟨hd1, hd2⟩ : H6.length + 1 < H1'.length ∧ H6.length < H1'.length := by
      constructor
      · rcases Nat.lt_or_ge (H6.length + 1) H1'.length with h | h
        · exact h
        · rw [List.getElem?_eq_none h] at hl1; exact hl1.elim
      · exact lt_of_get hd
    simp [d15_10, u12, u9, u10, hj', hj'', hj, rx, ry, vx', vy, tx, tz, q2, rowRw, cd.get d2, w]
    refine ⟨?_, ?_, cdd.tr' (.set _ _ _), by simp [hlt], walkI_chg d3 ((Chg.nil cd : Chg [H5.length] H1' Hd).tr' (.set _ _ _)) (by simp) hcl⟩
    · rw [List.getElem?_set_ne hdl2, cd.2 _ hd1 (by simp)]
    · rw [List.getElem?_set_ne hdl, cd.2 _ hd2 (by simp)]
  · rintro H7 ⟨d1, d2, d3⟩ hd
    simp only at hd
    have q10 := d1.get p10 (by simp; omega)
    have q2 := d1.get p2 (by simp; omega)
    have l6 := d1.1
    have hne : H.length ≠ H6.length := by omega
    have hne' : H6.length ≠ H.length := by omega
    have hlt := lt_of_get q2
    simp [rowOf, rowRw, d2, q10, q2, hd, List.getElem?_set_ne hne, List.getElem?_set_ne hne', List.getElem?_set_self hlt]
    refine (((c03.tr (c4.tr c46)).trans d1 (by simp; omega)).trans (.set _ _ _) (by simp)).trans (.set _ _ _) (by simp; omega)
end Go.Proofs.Ytinehdoenhodoaa.T
