import Derived.Test.YtdhedlkfpdakpaaE3
/-! Events: which may be. -/
set_option linter.unusedVariables false
set_option linter.unusedSimpArgs false
set_option maxHeartbeats 4000000
set_option maxRecDepth 100000
namespace Go.Proofs.Ytdhedlkfpdakpaa.T
open Go Go.Ab
theorem e8_eq (a b : E8) : (a.k == b.k && (a.m == b.m && (a.a == b.a && (a.i == b.i && (a.s == b.s && (a.d == b.d && (a.q == b.q && a.p == b.p))))))) = decide (a = b) := by
  cases a; cases b
  rw [Bool.eq_iff_iff]
  simp
/-- A row of letters, and one of them. -/
theorem u8s_row {ls : List Int} {i : Nat} (hi : i < ls.length) : ∃ R, R = u8s ls ∧ R[i]? = some (AV.int .u8 (ls.getD i 0)) := ⟨_, rfl, by simp [u8s, List.getElem?_eq_getElem hi]⟩
theorem okF_take {e : E8} {ls : List Int} {i : Nat} (hi : i < ls.length) (h : (ls.take i).all (okF e) = true) (h2 : okF e (ls.getD i 0) = true) : (ls.take (i + 1)).all (okF e) = true := by
  rw [List.take_add_one, List.all_append, h, List.getElem?_eq_getElem hi]
  rw [List.getD_eq_getElem?_getD, List.getElem?_eq_getElem hi] at h2
  simpa using h2
theorem okF_not {e : E8} {ls : List Int} {i : Nat} (hi : i < ls.length) (h2 : okF e (ls.getD i 0) = false) : ls.all (okF e) = false := by
  cases h : ls.all (okF e) with
  | false => rfl
  | true =>
    have := List.all_eq_true.1 h (ls.getD i 0) (by rw [List.getD_eq_getElem?_getD, List.getElem?_eq_getElem hi]; exact List.getElem_mem hi)
    rw [h2] at this; cases this
theorem own_take {e : E8} {ls : List Int} {i : Nat} (hi : i < ls.length) : own e (ls.take (i + 1)) = wth (own e (ls.take i)) (ls.getD i 0) (gt e (ls.getD i 0)) := by
  rw [List.take_add_one, List.getElem?_eq_getElem hi, Option.toList_some, own_snoc]
  simp [hi]
theorem getD_letter {k : Int} {i : Nat} (hi : i < (fld k).length) : isLetter ((fld k).getD i 0) := by
  rw [List.getD_eq_getElem?_getD, List.getElem?_eq_getElem hi]
  exact fld_letter k _ (List.getElem_mem hi)
/-- A letter of a string. -/
theorem str_idx {l : List Int} (h : Byt l) {i : Nat} (hi : i < l.length) : ∃ c : UInt8, (strN l).data[i]? = some c ∧ (c.toNat : Int) = l.getD i 0 := by
  have := strN_get h hi
  rw [Array.getElem?_toList] at this
  cases hc : (strN l).data[i]? with
  | none => rw [hc] at this; cases this
  | some c =>
    rw [hc] at this
    simp at this
    exact ⟨c, rfl, by simpa using this⟩
section
variable {k : Nat} {H : AH}
theorem right_ok {e : E8} : Hx (callA ap (k + 20) (.func 12 [] []) [.agg e.cs] 0 H) fun r => r.1 = .bool (rt e) ∧ Chg [] H r.2 := by
  rw [hx_go fn12 rfl, b12]
  by_cases h1 : e.k < 1
  · have hr : rt e = false := by simp only [rt]; rw [decide_eq_false (by omega : ¬ 1 ≤ e.k)]; rfl
    simp [f12, b12, E8.cs, h1, hr]
    exact .app _ _
  by_cases h22 : 22 < e.k
  · have hr : rt e = false := by simp only [rt]; rw [decide_eq_false (by omega : ¬ e.k ≤ 22)]; simp
    simp [f12, b12, E8.cs, h1, h22, hr]
    exact .app _ _
  have hr : rt e = ((fld e.k).all (okF e) && decide (own e (fld e.k) = e)) := by simp only [rt]; rw [decide_eq_true (by omega : 1 ≤ e.k), decide_eq_true (by omega : e.k ≤ 22)]; simp
  obtain ⟨ls, hls⟩ : ∃ ls, ls = fld e.k := ⟨_, rfl⟩
  have hB := fld_byt e.k
  have hll := fld_len e.k
  have hlet := fun i => @getD_letter e.k i
  have hf : ∀ k H, callA ap (k + 1) (.func 14 [] []) [.int .i64 e.k] 0 H = some (.str (strN ls), H) := fun k H => by rw [hls]; exact fields_ok
  rw [← hls] at hr hB hll hlet
  have hu := strN_u8s hB
  simp [f12, b12, E8.cs, h1, h22, hf, hu, strN_size]
  obtain ⟨G, eG⟩ : ∃ G, G = H ++ [.cells e.cs .rw, .cells (bare e.k).cs .rw, .cells (u8s ls) .rw] := ⟨_, rfl⟩
  have cG : Chg [] H G := by rw [eG]; exact .app _ _
  have r0 : G[H.length]? = some (.cells e.cs .rw) := by rw [eG]; simp
  have r1 : G[H.length + 1]? = some (.cells (own e []).cs .rw) := by rw [eG]; simp [own]
  have r2 : G[H.length + 2]? = some (.cells (u8s ls) .rw) := by rw [eG]; simp
  have cGe : ∀ H', Chg [H.length + 1] G H' → Chg [] H H' := fun H' c => cG.trans c (by simp)
  simp only [E8.cs, bare] at eG
  rw [← eG]
  refine hx_up (fun i s => ∃ H', s = ⟨sp 55 [(1, .ptr (some (H.length, 0))), (3, .ptr (some (H.length + 1, 0))), (23, .slice (some (H.length + 2, 0)) ls.length none 1), (24, .int .i64 ls.length), (25, .int .i64 i)], H', []⟩ ∧ Chg [H.length + 1] G H' ∧ H'[H.length + 1]? = some (.cells (own e (ls.take i)).cs .rw) ∧ (ls.take i).all (okF e) = true) ls.length ?_ ?_ (by omega)
    ⟨G, by simp [maskS], .refl, r1, by simp⟩
  · rintro i _ hi ⟨H1, rfl, c1, q1, ha⟩
    have hi' : (i : Int) < (ls.length : Int) := by omega
    have q0 := c1.get r0 (by simp)
    have q2 := rowOf_rw (c1.get r2 (by simp))
    obtain ⟨R, hR, gl⟩ := u8s_row hi
    rw [← hR] at q2
    have hnot := okF_not (e := e) hi
    have htk := okF_take (e := e) hi ha
    have hot := own_take (e := e) hi
    have hlt := hlet i hi
    have w : IntKind.i64.wrap ((i : Int) + 1) = (i : Int) + 1 := wrap_i64 (by omega) (by omega)
    generalize ls.getD i 0 = l at *
    have q0' := rowOf_rw q0
    simp only [E8.cs] at q0'
    simp [hi, hi', q2, gl, q0']
    refine Hx.mapp (get_ok (e := e) (l := l)) ?_
    rintro ⟨r, H2⟩ ⟨er, c2⟩
    simp only at er c2
    subst er
    have p0 := rowOf_rw (c2.get q0 (by simp))
    have p1 := c2.get q1 (by simp)
    simp only [E8.cs] at p0
    simp [p0, bounds_ok]
    have cH2 := cGe _ (c1.tr c2)
    have hok : okF e l = (decide ((bnd e.k l).1 ≤ gt e l) && decide (gt e l ≤ (bnd e.k l).2)) := rfl
    obtain ⟨lo, hlo⟩ : ∃ x, x = (bnd e.k l).1 := ⟨_, rfl⟩
    obtain ⟨hi_, hhi⟩ : ∃ x, x = (bnd e.k l).2 := ⟨_, rfl⟩
    rw [← hlo, ← hhi] at hok
    rw [← hlo, ← hhi]
    by_cases b1 : gt e l < lo
    · have := hnot (by rw [hok, decide_eq_false (by omega)]; rfl)
      simp [b1, hr, this, cH2]
    by_cases b2 : hi_ < gt e l
    · have := hnot (by rw [hok, decide_eq_false (by omega : ¬ gt e l ≤ hi_)]; simp)
      simp [b1, b2, hr, this, cH2]
    have hok := htk (by rw [hok, decide_eq_true (by omega), decide_eq_true (by omega)]; rfl)
    have p1' := rowOf_rw p1
    simp only [E8.cs] at p1'
    simp [b1, b2, p1']
    refine Hx.mapp (with_ok (e := own e (ls.take i)) (l := l) (v := gt e l)) ?_
    rintro ⟨r, H3⟩ ⟨er, c3⟩
    simp only at er c3
    subst er
    rw [← hot]
    have p3 := c3.get p1 (by simp)
    have p3' := rowRw_rw p3
    simp only [E8.cs] at p3'
    simp [p3', E8.cs, w]
    refine ⟨_, rfl, ((c1.tr c2).tr c3).trans (.set _ _ _) (by simp), List.getElem?_set_self (lt_of_get p3), List.all_eq_true.1 hok⟩
  · rintro _ ⟨H1, rfl, c1, q1, ha⟩
    rw [List.take_length] at q1 ha
    have q0 := rowOf_rw (c1.get r0 (by simp))
    have q1 := rowOf_rw q1
    simp only [E8.cs] at q0 q1
    have he := e8_eq (own e ls) e
    have hR : rt e = decide (own e ls = e) := by rw [hr, ha]; rfl
    generalize own e ls = o at *
    rw [hR, ← he]
    simp [q0, q1, eqV, eqF, eqC]
    exact cGe _ c1
theorem rright_ok {e : E8} : Hx (callA ap (k + 20) (.func 13 [] []) [.agg e.cs] 0 H) fun r => r.1 = .bool (rt e) ∧ Chg [] H r.2 := by
  rw [hx_go fn13 rfl, b13]
  by_cases h1 : 1 ≤ e.k
  case neg =>
    have hr : rt e = false := by simp only [rt]; rw [decide_eq_false (by omega : ¬ 1 ≤ e.k)]; rfl
    simp [f13, b13, E8.cs, kind_ok, h1, hr]
    exact .app _ _
  by_cases h22 : e.k ≤ 22
  case neg =>
    have hr : rt e = false := by simp only [rt]; rw [decide_eq_false (by omega : ¬ e.k ≤ 22)]; simp
    simp [f13, b13, E8.cs, kind_ok, h1, h22, hr]
    exact .app _ _
  have hr : rt e = ((fld e.k).all (okF e) && decide (own e (fld e.k) = e)) := by simp only [rt]; rw [decide_eq_true (by omega : 1 ≤ e.k), decide_eq_true (by omega : e.k ≤ 22)]; simp
  obtain ⟨ls, hls⟩ : ∃ ls, ls = fld e.k := ⟨_, rfl⟩
  have hB := fld_byt e.k
  have hll := fld_len e.k
  have hlet := fun i => @getD_letter e.k i
  have hf : ∀ k H, callA ap (k + 1) (.func 15 [] []) [.int .i64 e.k] 0 H = some (.str (strN ls), H) := fun k H => by rw [hls]; exact rfields_ok
  rw [← hls] at hr hB hll hlet
  simp [f13, b13, E8.cs, kind_ok, h1, h22, hf]
  obtain ⟨G, eG⟩ : ∃ G, G = H ++ [.cells e.cs .rw, .cells (bare e.k).cs .rw] := ⟨_, rfl⟩
  have cG : Chg [] H G := by rw [eG]; exact .app _ _
  have r0 : G[H.length]? = some (.cells e.cs .rw) := by rw [eG]; simp
  have r1 : G[H.length + 1]? = some (.cells (own e []).cs .rw) := by rw [eG]; simp [own]
  have cGe : ∀ H', Chg [H.length + 1] G H' → Chg [] H H' := fun H' c => cG.trans c (by simp)
  simp only [E8.cs, bare] at eG
  rw [← eG]
  refine hx_up (fun i s => ∃ H', s = ⟨sp 56 [(1, .ptr (some (H.length, 0))), (3, .str (strN ls)), (4, .ptr (some (H.length + 1, 0))), (5, .int .i64 i)], H', []⟩ ∧ Chg [H.length + 1] G H' ∧ H'[H.length + 1]? = some (.cells (own e (ls.take i)).cs .rw) ∧ (ls.take i).all (okF e) = true) ls.length ?_ ?_ (by omega)
    ⟨G, by simp [maskS], .refl, r1, by simp⟩
  · rintro i _ hi ⟨H1, rfl, c1, q1, ha⟩
    have hi' : (i : Int) < (ls.length : Int) := by omega
    obtain ⟨c, hc, hcl⟩ := str_idx hB hi
    have hsz := strN_size ls
    have hnot := okF_not (e := e) hi
    have htk := okF_take (e := e) hi ha
    have hot := own_take (e := e) hi
    have hlt := hlet i hi
    have w : IntKind.i64.wrap ((i : Int) + 1) = (i : Int) + 1 := wrap_i64 (by omega) (by omega)
    obtain ⟨Z, hZ⟩ : ∃ Z, Z = strN ls := ⟨_, rfl⟩
    rw [← hZ] at hc hsz ⊢
    generalize ls.getD i 0 = l at *
    simp [hi, hi', hsz]
    refine hx_drawn dc13_8 fun H2 c2 hl2 hd2 => ?_
    have q0 := (c1.tr c2).get r0 (by simp)
    have q0' := rowOf_rw q0
    simp only [E8.cs] at q0'
    have hrb : ∀ k H, callA ap (k + 2) (.func 29 [] []) [.int .i64 e.k, .int .u8 l] 0 H = some (.tuple [.int .i64 (bnd e.k l).1, .int .i64 (bnd e.k l).2], H) := fun k H => rbounds_ok hlt
    obtain ⟨lo, hlo⟩ : ∃ x, x = (bnd e.k l).1 := ⟨_, rfl⟩
    obtain ⟨hi_, hhi⟩ : ∃ x, x = (bnd e.k l).2 := ⟨_, rfl⟩
    have hok : okF e l = (decide ((bnd e.k l).1 ≤ gt e l) && decide (gt e l ≤ (bnd e.k l).2)) := rfl
    rw [← hlo, ← hhi] at hok hrb
    simp [d13_8, q0', hc, hcl, hrb]
    refine hx_drawn dc13_9 fun H3 c3 hl3 hd3 => ?_
    have p0 := (c1.tr c2 |>.tr c3).get r0 (by simp)
    have p0' := rowOf_rw p0
    simp only [E8.cs] at p0'
    simp [d13_9, p0', hc, hcl]
    refine Hx.mapp (value_ok (e := e) (l := l)) ?_
    rintro ⟨r, H4⟩ ⟨er, c4⟩
    simp only at er c4
    subst er
    have c14 := ((c1.tr c2).tr c3).tr c4
    have cH2 := cGe _ c14
    by_cases b1 : gt e l < lo
    · have := hnot (by rw [hok, decide_eq_false (by omega)]; rfl)
      simp [b1, hr, this, cH2]
    by_cases b2 : hi_ < gt e l
    · have := hnot (by rw [hok, decide_eq_false (by omega : ¬ gt e l ≤ hi_)]; simp)
      simp [b1, b2, hr, this, cH2]
    have hok := htk (by rw [hok, decide_eq_true (by omega), decide_eq_true (by omega)]; rfl)
    simp [b1, b2]
    refine hx_drawn dc13_12 fun H5 c5 hl5 hd5 => ?_
    have p1 := ((((c2.tr c3).tr c4).tr c5).get q1 (by simp))
    have p1' := rowOf_rw p1
    simp only [E8.cs] at p1'
    simp [d13_12, p1', hc, hcl]
    refine Hx.mapp (rwith_ok (e := own e (ls.take i)) (l := l) (v := gt e l)) ?_
    rintro ⟨r, H6⟩ ⟨er, c6⟩
    simp only at er c6
    subst er
    rw [← hot]
    have p3 := c6.get p1 (by simp)
    have p3' := rowRw_rw p3
    simp only [E8.cs] at p3'
    simp [p3', E8.cs, w]
    exact ⟨_, rfl, ((c14.tr c5).tr c6).trans (.set _ _ _) (by simp), List.getElem?_set_self (lt_of_get p3), List.all_eq_true.1 hok⟩
  · rintro _ ⟨H1, rfl, c1, q1, ha⟩
    rw [List.take_length] at q1 ha
    have q0 := rowOf_rw (c1.get r0 (by simp))
    have q1 := rowOf_rw q1
    simp only [E8.cs] at q0 q1
    have he := e8_eq (own e ls) e
    have hR : rt e = decide (own e ls = e) := by rw [hr, ha]; rfl
    have hsz := strN_size ls
    generalize own e ls = o at *
    rw [hR, ← he]
    simp [q0, q1, eqV, eqF, eqC, hsz]
    exact cGe _ c1
end
end Go.Proofs.Ytdhedlkfpdakpaa.T
