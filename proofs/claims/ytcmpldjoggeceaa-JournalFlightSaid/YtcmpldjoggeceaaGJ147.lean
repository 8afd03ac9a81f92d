import Derived.Test.YtcmpldjoggeceaaGJ146
section
/-! Journals: known. -/
set_option linter.unusedVariables false
set_option linter.unusedSimpArgs false
set_option maxHeartbeats 4000000
set_option maxRecDepth 100000
namespace Go.Proofs.Ytcmpldjoggeceaa.T.Jn
open Go Go.Ab
open Fm (nxt pos rcd okAt nrec hdN conc recB walkI)
open Tp (At TS Step appT cutT)
def tick3 : E8 := ⟨10, 0, 0, 0, 0, 0, 3, 0⟩
theorem tick3_rt : rt tick3 = true := by decide
section
variable {k : Nat} {H : AH}
theorem at_new (G : AH) (n : Int) : At false (G ++ [.cells (Tp.tcells (.slice none 0 (some 0) 0) ⟨[], min (max n 0) 1048576, false, false, 0, 0⟩) .rw]) G.length (.slice none 0 (some 0) 0) ⟨[], min (max n 0) 1048576, false, false, 0, 0⟩ :=
  ⟨by simp [Tp.cellsOf], .nil _ _, by simp, by simp; omega, by simp only; omega, by simp⟩
theorem open_nil {t : TS} (hb : t.bs = []) (hd : t.down = false) : openT t = ((3, .zero, []), t) ∧ pos t.bs (nrec t.bs) = t.bs.length := by
  have h1 : nrec ([] : List Int) = 0 := by decide
  have h2 : recs ([] : List Int) = [] := by unfold recs; rw [h1]; rfl
  refine ⟨?_, by rw [hb, h1]; rfl⟩
  unfold openT
  rw [hb, h1, h2]
  simp [hd, pos, openJ]
theorem known_ok (hk : 6000 < k) : Hx (callA ap k (.func 8 [] []) [] 0 H) fun r => r.1 = .bool true ∧ Chg [] H r.2 := by
  obtain ⟨k, rfl⟩ : ∃ k', k = k' + 5001 := ⟨k - 5001, by omega⟩
  rw [hx_go fn8 rfl, b8]
  have e1 := fun lo (G : AH) => @Tp.new_ok (k + 4999) lo G 1000
  simp [f8, b8, e1, eqV]
  obtain ⟨t0, et0⟩ : ∃ t0 : TS, t0 = ⟨[], min (max 1000 0) 1048576, false, false, 0, 0⟩ := ⟨_, rfl⟩
  have h0 := (at_new (H ++ [.cells [.bool false] .rw]) 1000).keep (Chg.app _ [.cells tick3.cs .rw])
  simp only [List.append_assoc, List.length_append, List.length_cons, List.length_nil, List.cons_append, List.nil_append, Nat.zero_add] at h0
  rw [← et0] at h0
  obtain ⟨hb0, hm0, hd0, ha0⟩ : t0.bs = [] ∧ t0.room = 1000 ∧ t0.down = false ∧ t0.armed = false := by rw [et0]; exact ⟨rfl, by decide, rfl, rfl⟩
  obtain ⟨G, eG⟩ : ∃ G : AH, G = H ++ [.cells [.bool false] .rw, .cells (Tp.tcells (.slice none 0 (some 0) 0) t0) .rw, .cells tick3.cs .rw] := ⟨_, rfl⟩
  rw [← eG] at h0
  have cG : Chg [] H G := by rw [eG]; exact .app _ _
  have r0 : G[H.length]? = some (.cells [.bool false] .rw) := by rw [eG]; simp
  have r2 : G[H.length + 2]? = some (.cells tick3.cs .rw) := by rw [eG]; simp
  simp only [E8.cs, tick3] at eG r2
  rw [← et0, ← eG]
  clear et0 eG
  have hB0 : Byt t0.bs := by rw [hb0]; exact byt_nil
  have hl0 : t0.bs.length = 0 := by rw [hb0]; rfl
  obtain ⟨o1, o2⟩ := open_nil hb0 hd0
  refine Hx.mapp (open_ok h0 hB0 (by omega)) ?_
  rintro ⟨r, H1⟩ ⟨⟨x1, w1, v1, er, s1, s2, -⟩, c1⟩
  replace c1 := c1 o2
  rw [o1] at er s1 s2
  simp only at er c1 s1 s2
  subst er
  obtain ⟨xa, xc, xs, rfl⟩ := SI.form s1
  obtain ⟨wa, wc, ws, rfl⟩ := SE.form s2
  obtain ⟨G1, e1⟩ : ∃ G1, G1 = H1 ++ [.cells (Cf.cs .zero (.slice xa (Cf.zero).ins.length xc xs)) .rw] := ⟨_, rfl⟩
  have c2 : Chg [] G G1 := by rw [e1]; exact c1.tr (.app _ _)
  simp only [Cf.cs] at e1
  simp [Cf.cs]
  rw [← e1]
  have h1 := h0.keep c2
  refine Hx.mapp small_ok ?_
  rintro ⟨r, H3⟩ ⟨x3, rfl, s3, c3, f3⟩
  simp only at s3 c3 f3
  simp
  refine Hx.mapp (start_ok (h1.keep c3) s3 small_fit (by have : smallC.ins.length = 1 := rfl; omega) (by have : smallC.ins.length = 1 := rfl; omega)) ?_
  rintro ⟨r, H4⟩ ⟨er, v4, h4, c4, f4⟩
  rw [jr_start small_right hb0 hd0 ha0 (by omega)] at er h4
  simp only at er h4 c4 f4
  subst er
  have lG := lt_of_get r2
  have l23 : G.length ≤ H3.length := Nat.le_trans c2.1 c3.1
  have g0 := c4.get ((c2.tr c3).get r0 (by simp)) (by simp)
  have g2 := c4.get ((c2.tr c3).get r2 (by simp)) (by simp)
  simp [rowOf_rw g2]
  have f4' : ∀ b ∈ blk v4, H3.length ≤ b := fun b hb => by simpa using f4 b hb
  refine Hx.mapp (add_ok (e := tick3) h4 (by omega)) ?_
  rintro ⟨r, H5⟩ ⟨er, v5, h5, c5, f5⟩
  rw [jr_add (es := []) small_right rfl (by exact hd0) (by exact ha0) (by simp [hm0]) tick3_rt] at er h5
  simp only at er h5 c5 f5
  subst er
  rw [List.nil_append] at h5
  have nP : ∀ i, i < G.length → i ≠ H.length + 1 → i ∉ (H.length + 1) :: blk v4 := fun i h1 h2 h => by
    rcases List.mem_cons.1 h with h | h
    · exact h2 h
    · have := f4' i h; omega
  replace g0 := c5.get g0 (nP _ (by omega) (by omega))
  replace g2 := c5.get g2 (nP _ (by omega) (by omega))
  simp
  obtain ⟨t5, et5⟩ : ∃ t5 : TS, t5 = { ({ t0 with bs := jr smallC [] } : TS) with bs := jr smallC [tick3] } := ⟨_, rfl⟩
  have hb5 : t5.bs = jr smallC [tick3] := by rw [et5]
  have hd5 : t5.down = false := by rw [et5]; exact hd0
  have hm5 : t5.room = 1000 := by rw [et5]; exact hm0
  replace h5 : At false H5 (H.length + 1) v5 t5 := by rw [et5]; exact h5
  have hee : ∀ e ∈ [tick3], rt e = true := by simp [tick3_rt]
  have hB5 : Byt t5.bs := by rw [hb5]; exact jr_byt small_right small_fit hee
  have hl5 : t5.bs.length ≤ 373 := by rw [hb5]; have := jr_len (es := [tick3]) small_right; simpa using this
  clear et5
  have hpe : pos t5.bs (nrec t5.bs) = t5.bs.length := by rw [hb5]; exact jr_end small_right
  refine Hx.mapp (open_ok h5 hB5 (by omega)) ?_
  rintro ⟨r, H6⟩ ⟨⟨x6, w6, v6, er, s6, q6, fx6, fw6, -⟩, c6⟩
  replace c6 := c6 hpe
  rw [jr_openT small_right small_fit hee hb5 hd5] at er s6 q6
  simp only at er c6 s6 q6 fx6 fw6
  subst er
  obtain ⟨xa, xc, xs, rfl⟩ := SI.form s6
  obtain ⟨wa, wc, ws, rfl⟩ := SE.form q6
  obtain ⟨G7, e7⟩ : ∃ G7, G7 = H6 ++ [.cells (smallC.cs (.slice xa smallC.ins.length xc xs)) .rw] := ⟨_, rfl⟩
  have c7 : Chg [] H6 G7 := by rw [e7]; exact .app _ _
  have r8 : G7[H6.length]? = some (.cells (smallC.cs (.slice xa smallC.ins.length xc xs)) .rw) := by rw [e7]; simp
  simp only [Cf.cs] at e7
  simp [Cf.cs]
  rw [← e7]
  have h7 := h5.keep (c6.tr c7)
  refine Hx.mapp (Tp.read_ok h7) ?_
  rintro ⟨r, H8⟩ ⟨c8, s, er, ms, fs⟩
  simp only at er c8 ms fs
  subst er
  simp only [hd5, Bool.false_eq_true, if_false] at ms
  obtain ⟨sa, sc, ss, rfl⟩ := ms.sl.len8
  simp [hd5]
  refine Hx.mapp (all_ok ms.sl (by omega)) ?_
  rintro ⟨r, H9⟩ ⟨c9, cc, er, hcc, hw⟩
  simp only at er c9 hcc hw
  subst er
  have cA := (c6.tr c7).tr (c8.tr c9)
  have l8 := c8.1
  have l9 := c9.1
  have l7 : H6.length + 1 = G7.length := by rw [e7]; simp
  obtain ⟨G10, e10⟩ : ∃ G10 : AH, G10 = H9 ++ [.cells [.int .i64 0] .rw] := ⟨_, rfl⟩
  have c10 : Chg [] H9 G10 := by rw [e10]; exact .app _ _
  have r13 : G10[H9.length]? = some (.cells [.int .i64 0] .rw) := by rw [e10]; simp
  have l10 : H9.length + 1 = G10.length := by rw [e10]; simp
  simp [eqV]
  rw [← e10]
  obtain ⟨vs, w1, w2, w3⟩ := hw
  have w2l := w2.lt
  have w1l := lt_of_get w1
  have hWI : ∀ Ha, Chg [H9.length] G10 Ha → walkI cc H8.length t5.bs Ha := fun Ha c =>
    ⟨vs, c.get (c10.get w1 (by simp)) (by simp; omega), (w2.keep c10).chg c (fun i hi => by have := w2l i hi; simp; omega), w3⟩
  have gA := (cA.tr c10)
  have g2A := gA.get g2 (by simp)
  have lA := gA.1
  have l2A := lt_of_get g2
  have l6 := c6.1
  refine hx_rangeF (k := k + 4996) (F := [H9.length]) (evA [tick3]) (walkI cc H8.length t5.bs) (fun j H' => Chg [H9.length] G10 H' ∧ H'[H9.length]? = some (.cells [.int .i64 j] .rw)) (fun _ _ => False) (n := [tick3].length) rfl (by simp; omega)
    (all1_goes (c := smallC) hB5 (by omega) (by rw [hb5]; exact jr_open small_right small_fit hee) (by simp) (by omega))
    (fun P j Ha Hb hp ⟨a, b⟩ q => ⟨a.trans q (fun i hi => .inr (by have := hp i hi; simp at this; omega)), q.get b (fun h => by have := hp _ h; simp at this; omega)⟩) (fun _ _ _ _ _ h _ => h.elim)
    (fun j Ha Hb ⟨a, b⟩ q => ⟨chg_ls a (by simp) q, get_ls b q⟩) (fun _ _ _ h _ => h.elim) (fun j Ha h => hWI Ha h.1) (fun j Ha Hb a h _ => h) (fun j Ha a ⟨e, _, ea⟩ => by rw [ea]; rfl) ⟨.refl, r13⟩ ?_ ?_ (fun _ _ _ h => h.elim)
  · rintro j hj Ha a ⟨d0, d1⟩ ⟨e, he, rfl⟩ hl1 hd' hlen
    have hj0 : j = 0 := by simpa using hj
    subst hj0
    simp at he
    subst he
    have hlt := loop_lt hl1
    simp only [tag_eq] at hlt hl1 hd' hlen
    unfold as8_0
    simp [setL, E8.cs, tick3]
    refine ⟨.app _ _, fun H11 hls hlp hdd b0 b1 ms => ?_⟩
    have u16 : H11[Ha.length]? = some (.cells [AV.int .i64 10, .int .i64 0, .int .i64 0, .int .i64 0, .int .i64 0, .int .i64 0, .int .i64 3, .int .i64 0] .rw) := hls.get (by simp)
    have u2 := b0.get g2A (by simp; omega)
    unfold bd8_0
    simp [rowOf_rw b1, rowOf_rw u16, rowOf_rw u2, rowRw_rw b1, eqV, eqF, eqC, -stepOut_normal]
    rw [stepOut_normal]
    simp only [tag_eq]
    have cs := Chg.set H11 H9.length (.cells [.int .i64 1] .rw)
    exact ⟨cs.2 _ (loop_lt hlp) (by simp; omega), cs.2 _ (lt_of_get hdd) (by simp; omega), ⟨b0.trans cs (by simp), List.getElem?_set_self (lt_of_get b1)⟩, cs⟩
  · rintro H11 ⟨d0, d1⟩ hd'
    simp only [tag_eq] at hd'
    simp
    refine hx_drawn dc8_19 fun H12 c12 hl12 hd12 => ?_
    have cX : Chg [] H6 H12 := (((c7.tr (c8.tr c9)).tr c10).trans d0 (by simp; omega)).tr c12
    have rX8 := rowOf_rw ((((c8.tr c9).tr c10).trans d0 (F := []) (by simp; omega)).tr c12 |>.get r8 (by simp))
    have rX2 := rowOf_rw (cX.get (c6.get g2 (by simp)) (by simp))
    have rX13 := rowOf_rw (c12.get d1 (by simp))
    simp only [Cf.cs] at rX8
    simp at rX13
    have h12 := h5.keep (c6.tr cX)
    have s12 := s6.keep cX
    have q12 := q6.keep cX
    have r8c : H12[H6.length]? = some (.cells (smallC.cs (.slice xa smallC.ins.length xc xs)) .rw) := (((c8.tr c9).tr c10).trans d0 (F := []) (by simp; omega)).tr c12 |>.get r8 (by simp)
    have r2c := cX.get (c6.get g2 (by simp)) (by simp)
    have r13c := c12.get d1 (by simp)
    simp at r13c
    simp only [Cf.cs] at r8c
    have n1 : smallC.ins.length = 1 := rfl
    simp [d8_19, rX8, rX2, rX13]
    refine Hx.mapp small_ok ?_
    rintro ⟨r, A1⟩ ⟨y1, rfl, sy1, ca1, -⟩
    simp only at sy1 ca1
    simp [Cf.cs, rowOf_rw (ca1.get r8c (by simp))]
    refine Hx.mapp (Pl.rsame_ok (a := smallC) (b := smallC) (s12.keep ca1) sy1 (by omega) (by omega) (by omega)) ?_
    rintro ⟨r, A2⟩ ⟨er, ca2⟩
    simp only at er ca2
    subst er
    have cb2 := ca1.tr ca2
    simp [rowOf_rw (cb2.get r2c (by simp)), rowOf_rw (cb2.get r8c (by simp)), rowOf_rw (cb2.get r13c (by simp))]
    have k0 := hd12 22 (by decide)
    have k1 := ca1.get k0 (by simp)
    have k2 := cb2.get k0 (by simp)
    have l12 := c12.1
    have l11 := d0.1
    have e0 : isDeadB H12[H11.length + 22]? = true := by rw [k0]; rfl
    have e1 : isDeadB A1[H11.length + 22]? = true := by rw [k1]; rfl
    have e2 : isDeadB A2[H11.length + 22]? = true := by rw [k2]; rfl
    obtain ⟨A3, eA⟩ : ∃ A3, A3 = A2.set (H11.length + 22) (.cells tick3.cs .rw) := ⟨_, rfl⟩
    have ca3 : Chg [H11.length + 22] A2 A3 := by rw [eA]; exact .set _ _ _
    have q3 : SE A3 (.slice (some (H11.length + 22, 0)) 1 (some 1) 8) [tick3] := by
      rw [eA]
      exact SL.mk (n := 1) (by omega) (rowOf_self (lt_of_get k2)) (by simp [evsC, E8.cs]) (by simp)
    have q12' : SE A3 (.slice wa 1 wc ws) [tick3] := ((q12.keep cb2)).chg ca3 (fun i hi h => by have := q6.lt i hi; simp at h; omega)
    have cHA : Chg [] H11 A3 := (c12.tr cb2).trans ca3 (by simp)
    simp only [E8.cs, tick3] at eA
    simp [e0, e1, e2]
    rw [← eA]
    refine Hx.mapp (events_eq (l := [tick3]) (m := [tick3]) q12' q3 (by simp) (by simp) (by simp)) ?_
    rintro ⟨r, A4⟩ ⟨er, ca4⟩
    simp only at er ca4
    subst er
    have cHB := cHA.tr ca4
    simp [rowOf_rw (cHB.get d1 (by simp))]
    refine Hx.mapp small_ok ?_
    rintro ⟨r, A5⟩ ⟨y5, rfl, sy5, ca5, -⟩
    simp only at sy5 ca5
    have l6 := c6.1
    have cT : Chg [] H5 A5 := c6.tr (((cX.tr cb2).trans ca3 (by have := cX.1; have := c12.1; simp; omega)).tr (ca4.tr ca5))
    have h5A := h5.keep cT
    simp [Cf.cs]
    refine Hx.mapp (start_ok h5A sy5 small_fit (by omega) (by omega)) ?_
    rintro ⟨r, A6⟩ ⟨er, v6', h6A, ca6, f6⟩
    rw [jr_there small_right (by rw [hb5]; exact jr_ne) hd5] at er h6A
    simp only at er h6A ca6 f6
    subst er
    simp
    refine Hx.mapp (start_ok (c := .zero) (x := .slice none 0 (some 0) 0) h6A (.nil _ _) ⟨by unfold I64 Cf.zero; decide, by unfold I64 Cf.zero; decide⟩ (by have : Cf.zero.ins.length = 0 := rfl; omega) (by have : Cf.zero.ins.length = 0 := rfl; omega)) ?_
    rintro ⟨r, A7⟩ ⟨er, v7', h7A, ca7, f7⟩
    have hsz : startT t5 .zero = (1, t5) := by unfold startT; rw [if_neg (by decide)]
    rw [hsz] at er h7A
    simp only at er h7A ca7 f7
    subst er
    have l34 := c4.1
    have f5' : ∀ b ∈ blk v5, H3.length ≤ b := fun b hb => (f5 b hb).elim (f4' b) (fun h => by omega)
    have l35 := c5.1
    have lT := cT.1
    have f6' : ∀ b ∈ blk v6', H3.length ≤ b := fun b hb => (f6 b hb).elim (f5' b) (fun h => by omega)
    have gE := ca7.get (ca6.get (cT.get g0 (by simp)) (fun h => by
      rcases List.mem_cons.1 h with h | h
      · omega
      · have := f5' _ h; omega)) (fun h => by
      rcases List.mem_cons.1 h with h | h
      · omega
      · have := f6' _ h; omega)
    have hs : ∀ l, rowOf (A7.set H.length (.cells l .rw)) H.length = some l := fun l => rowOf_self (lt_of_get gE)
    have lt5 := h5.mine.lt
    have dG := (cHA.tr (ca4.tr ca5)).get hd' (by simp)
    have dlt := lt_of_get dG
    have l56 := c6.1
    have d6 := ca6.get dG (fun h => by
      rcases List.mem_cons.1 h with h | h
      · omega
      · have := lt5 _ h; omega)
    have d7 := ca7.get d6 (fun h => by
      rcases List.mem_cons.1 h with h | h
      · omega
      · rcases f6 _ h with h | h
        · have := lt5 _ h; omega
        · omega)
    have dF : ∀ X, (A7.set H.length X)[G10.length]? = some (.deferred false) := fun X => by rw [List.getElem?_set_ne (by omega)]; exact d7
    have hs' : ∀ l Y, rowOf ((A7.set H.length (.cells l .rw)).set G10.length Y) H.length = some l := fun l Y => set_row (hs l) (by omega) Y
    have r2d := ca3.get (cb2.get r2c (by simp)) (by simp; omega)
    have r8d := ca3.get (cb2.get r8c (by simp)) (by simp; omega)
    have r13d := ca3.get (cb2.get r13c (by simp)) (by simp; omega)
    simp [rowRw_rw gE, hs, dF, hs', rX8, rX2, rX13, rowOf_rw r2d, rowOf_rw r8d, rowOf_rw r13d, rowOf_rw (ca4.get r2d (by simp)), rowOf_rw (ca4.get r8d (by simp)), rowOf_rw (ca4.get r13d (by simp)), rowOf_rw (ca1.get r8c (by simp)), rowOf_rw (ca1.get r2c (by simp)), rowOf_rw (cb2.get r8c (by simp)), rowOf_rw (cb2.get r2c (by simp))]
    have lH := cG.1
    have z1 : Chg [] H H4 := (cG.tr (c2.tr c3)).trans c4 (fun i hi => .inr (by simp at hi; omega))
    have z2 : Chg [] H H5 := z1.trans c5 (fun i hi => .inr (by
      rcases List.mem_cons.1 hi with h | h
      · omega
      · have := f4' _ h; omega))
    have z3 : Chg [] H A6 := (z2.tr cT).trans ca6 (fun i hi => .inr (by
      rcases List.mem_cons.1 hi with h | h
      · omega
      · have := f5' _ h; omega))
    have z4 : Chg [] H A7 := z3.trans ca7 (fun i hi => .inr (by
      rcases List.mem_cons.1 hi with h | h
      · omega
      · have := f6' _ h; omega))
    exact (z4.set_new (Nat.le_refl _) _).set_new (by omega) _
end
end Go.Proofs.Ytcmpldjoggeceaa.T.Jn
end
section
/-! Journals: alike. -/
set_option linter.unusedVariables false
set_option linter.unusedSimpArgs false
set_option maxHeartbeats 4000000
set_option maxRecDepth 100000
namespace Go.Proofs.Ytcmpldjoggeceaa.T.Jn
open Go Go.Ab
open Tp (At TS Step appT cutT Pair eqT byT)
section
variable {k p q : Nat} {H0 H : AH} {v u : AV} {t r : TS}
theorem alike_ok (P : Pair H0 H p v t q u r) (e : eqT t r) (hb : byT t) : Hx (callA ap (k + 4) (.func 35 [] []) [.ptr (some (p, 0)), .ptr (some (q, 0))] 0 H) fun x => x.1 = .bool true ∧ Chg [] H x.2 := by
  rw [hx_go fn35 rfl, b35]
  obtain ⟨eb, er, ed⟩ := e.obs
  simp [f35, b35]
  refine Hx.mapp (Tp.copy_ok P.left) ?_
  rintro ⟨_, H1⟩ ⟨rfl, c1, w, gc, fw⟩
  simp only at c1 gc fw
  simp
  refine hx_drawn dc35_2 fun H2 c2 _ _ => ?_
  have P2 := P.keep (c1.tr c2)
  have gc2 := gc.keep c2
  obtain ⟨a, c, s, rfl⟩ := P2.right.form
  have row := rowOf_rw P2.right.row
  simp only [Tp.cellsOf, Tp.rcells, if_true, eb, er, ed] at row
  simp [d35_2, eqV, row, Tp.down_ok P2.left]
  refine Hx.mapp (Tp.wake_ok gc2) ?_
  rintro ⟨_, H3⟩ ⟨rfl, w3, g3, c3, f3⟩
  simp only at g3 c3 f3
  simp
  have c23 : Chg [] H H3 := (c1.tr c2).trans c3 (fun i hi => .inr (by
    rcases List.mem_cons.1 hi with rfl | hi
    · exact Nat.le_refl _
    · have := fw i hi; omega))
  refine Hx.mapp (Tp.read_ok g3) ?_
  rintro ⟨_, H4⟩ ⟨c4, x, rfl, mx, fx⟩
  simp only [Tp.wakeT, Bool.false_eq_true, if_false] at c4 mx fx
  simp [Tp.wakeT]
  refine hx_drawn dc35_6 fun H5 c5 _ _ => ?_
  have P5 := P.keep ((c23.tr c4).tr c5)
  have row5 := rowOf_rw P5.right.row
  have t1 := toStr_b8 (P5.right.mine.sl)
  have t2 := toStr_b8 (mx.sl.keep c5)
  rw [eb] at t1
  simp only [Tp.cellsOf, Tp.rcells, if_true, eb, er, ed] at row5
  have qq := strN_beq hb hb
  simp [d35_6, row5, t1, t2, qq]
  exact (c23.tr c4).tr c5
end
end Go.Proofs.Ytcmpldjoggeceaa.T.Jn
end
section
/-! Journals: what is done to two tapes. -/
set_option linter.unusedVariables false
set_option linter.unusedSimpArgs false
set_option maxHeartbeats 4000000
set_option maxRecDepth 100000
namespace Go.Proofs.Ytcmpldjoggeceaa.T.Jn
open Go Go.Ab
open Tp (TS appT cutT eqT byT)
section
variable {t r : TS}
theorem startT_eq (h : eqT t r) (c : Cf) : (startT t c).1 = (startT r c).1 ∧ eqT (startT t c).2 (startT r c).2 := by
  obtain ⟨eb, er, ed⟩ := h.obs
  have ha := Tp.appT_eq h (Fm.recB (Pl.putB c))
  unfold startT
  rw [eb, ed]
  split
  · split
    · exact ⟨rfl, h⟩
    · split
      · exact ha
      · exact ⟨rfl, h⟩
  · exact ⟨rfl, h⟩
theorem addT_eq (h : eqT t r) (e : E8) : (addT t e).1 = (addT r e).1 ∧ eqT (addT t e).2 (addT r e).2 := by
  have ha := Tp.appT_eq h (Fm.recB (putE e))
  unfold addT
  split
  · exact ha
  · exact ⟨rfl, h⟩
theorem openT_eq (h : eqT t r) : (openT t).1 = (openT r).1 ∧ eqT (openT t).2 (openT r).2 := by
  obtain ⟨eb, er, ed⟩ := h.obs
  have hc := Tp.cutT_eq h (Fm.pos t.bs (Fm.nrec t.bs))
  unfold openT
  rw [eb, ed, ← hc.1]
  split
  · exact ⟨rfl, h⟩
  · split
    · split
      · exact ⟨rfl, hc.2⟩
      · exact ⟨rfl, hc.2⟩
    · exact ⟨rfl, h⟩
theorem byT_cut (h : byT t) (n : Int) : byT (cutT t n).2 := by
  have hl := (Tp.lastT_bs t).1
  unfold cutT
  split
  · exact h
  · split
    · exact h
    · split
      · split
        · exact Byt.take h _
        · unfold byT; rw [hl]; exact h
      · exact Byt.take h _
theorem byT_app (h : byT t) {xs : List Int} (hx : Byt xs) : byT (appT t xs).2 := by
  unfold appT
  split
  · exact h
  · split
    · exact h
    · split
      · exact Byt.app h (hx.take _)
      · exact Byt.app h hx
theorem byT_start (h : byT t) {c : Cf} (hf : FitC c) : byT (startT t c).2 := by
  unfold startT
  split
  · rename_i hr
    split
    · exact h
    · split
      · exact byT_app h (Fm.recB_byt (Pl.encs_byt (Pl.flat_i64 hr hf)))
      · exact h
  · exact h
theorem byT_add (h : byT t) {e : E8} : byT (addT t e).2 := by
  unfold addT
  split
  · rename_i hr
    exact byT_app h (Fm.recB_byt (putE_byt hr))
  · exact h
theorem byT_open (h : byT t) : byT (openT t).2 := by
  unfold openT
  split
  · exact h
  · split
    · split
      · exact byT_cut h _
      · exact byT_cut h _
    · exact h
end
end Go.Proofs.Ytcmpldjoggeceaa.T.Jn
end
section
/-! Journals: an act on both. -/
set_option linter.unusedVariables false
set_option linter.unusedSimpArgs false
set_option maxHeartbeats 4000000
set_option maxRecDepth 100000
namespace Go.Proofs.Ytcmpldjoggeceaa.T.Jn
open Go Go.Ab
open Tp (At TS Step appT cutT armT wakeT Pair eqT byT)
theorem Opened.step {ref : Bool} {H H' : AH} {p : Nat} {v r : AV} {o : (Int × Cf × List E8) × TS} (h : Opened ref H p v o r H') : ∃ x w, r = .tuple [.agg (o.1.2.1.cs x), w, .int .i64 o.1.1] ∧ SI H' x o.1.2.1.ins ∧ SE H' w o.1.2.2 ∧ (∀ i ∈ blk x, H.length ≤ i) ∧ (∀ i ∈ blk w, H.length ≤ i) ∧ Step ref H p v o.2 H' := by
  obtain ⟨x, w, v', h1, h2, h3, h4, h5, h6, h7, h8⟩ := h
  exact ⟨x, w, h1, h2, h3, fun i hi => (h4 i hi).1, fun i hi => (h5 i hi).1, v', h6, h7, h8⟩
theorem decC_right {b : List Int} {c : Cf} (h : decC b = some c) : rightC c = true := by
  unfold decC at h
  split at h
  · rename_i hx
    cases h
    exact hx.choose_spec.1
  · cases h
theorem openJ_fit (l : List (List Int)) : (openJ l).2.1.ins.length ≤ 6 ∧ (openJ l).2.2.length ≤ l.length := by
  have z : Cf.zero.ins.length = 0 := rfl
  match l with
  | [] => exact ⟨by simp [openJ, z], by simp [openJ]⟩
  | b :: r =>
    cases hc : decC b with
    | none => rw [openJ_1 hc]; exact ⟨by simp [z], by simp⟩
    | some c =>
      cases hd : decAll r with
      | none => rw [openJ_2 hd]; exact ⟨by simp [z], by simp⟩
      | some es =>
        rw [openJ_3 hc hd]
        have := right_len (decC_right hc)
        have := decAll_len hd
        exact ⟨by simp only; omega, by simp only [List.length_cons]; omega⟩
theorem openT_fit (t : TS) : (openT t).1.2.1.ins.length ≤ 6 ∧ 6 * (openT t).1.2.2.length ≤ t.bs.length := by
  have z : Cf.zero.ins.length = 0 := rfl
  have h1 := openJ_fit (recs t.bs)
  have h2 := Fm.nrec_pos (bs := t.bs) (Nat.le_refl _)
  rw [recs_len] at h1
  unfold openT
  split
  · exact ⟨by simp [z], by simp⟩
  · split
    · split
      · exact ⟨h1.1, by simp only; omega⟩
      · exact ⟨by simp [z], by simp⟩
    · exact ⟨h1.1, by simp only; omega⟩
section
variable {k p q : Nat} {H0 H : AH} {v u : AV} {t r : TS}
/-- Both tapes behind an act. -/
def Both (H0 : AH) (p q : Nat) (H : AH) : Prop := ∃ t r v u, Pair H0 H p v t q u r ∧ eqT t r ∧ byT t
theorem opens_eq {x y w z : AV} {c : Cf} {es : List E8} (h1 : SI H x c.ins) (h2 : SI H y c.ins) (h3 : SE H w es) (h4 : SE H z es) (hc : c.ins.length ≤ 6) (he : es.length ≤ 1000000) (hk : es.length + 100 < k) :
    Hx (callA ap k (.func 18 [] []) [.agg (c.cs x), .agg (c.cs y)] 0 H) (fun r => r.1 = .bool true ∧ Chg [] H r.2) ∧
    (∀ H2, Chg [] H H2 → Hx (callA ap k (.func 19 [] []) [w, z] 0 H2) fun r => r.1 = .bool true ∧ Chg [] H2 r.2) := by
  refine ⟨(Pl.rsame_ok (a := c) (b := c) h1 h2 (by omega) (by omega) (by omega)).mono fun r h => by simpa using h, fun H2 c2 => (events_eq (l := es) (m := es) (h3.keep c2) (h4.keep c2) (by omega) (by omega) (by omega)).mono fun r h => by simpa using h⟩
theorem do_open (P1 : Pair H0 H p v t q u r) (e : eqT t r) (hb : byT t) (hk : 1050000 < k) :
    Hx (callA ap k (.func 15 [] []) [.ptr (some (p, 0))] 0 H) fun r1 => ∃ er cf es x1 w1 t2 v2, r1.1 = .tuple [.agg (Cf.cs cf x1), w1, .int .i64 er] ∧ SI r1.2 x1 cf.ins ∧ SE r1.2 w1 es ∧ cf.ins.length ≤ 6 ∧ 6 * es.length ≤ t.bs.length ∧ Pair H0 r1.2 p v2 t2 q u r ∧
      byT t2 ∧ (∀ i ∈ blk x1, H.length ≤ i) ∧ (∀ i ∈ blk w1, H.length ≤ i) ∧
      ∀ H2, Chg [] r1.2 H2 → Hx (callA ap k (.func 34 [] []) [.ptr (some (q, 0))] 0 H2) fun r2 => ∃ y1 z1, r2.1 = .tuple [.agg (Cf.cs cf y1), z1, .int .i64 er] ∧ SI r2.2 y1 cf.ins ∧ SE r2.2 z1 es ∧ SI r2.2 x1 cf.ins ∧ SE r2.2 w1 es ∧ Both H0 p q r2.2 ∧ Chg (q :: blk u) H2 r2.2 := by
  have hsm := P1.left.small
  have htop := P1.left.top
  obtain ⟨f1, f2⟩ := openT_fit t
  have eq := openT_eq e
  have b2 := byT_open hb
  obtain ⟨eb, -, -⟩ := e.obs
  refine (open_ok P1.left hb (by omega)).mono ?_
  rintro ⟨r1, H1⟩ ⟨op1, -⟩
  rcases ho : openT t with ⟨⟨er, cf, es⟩, t2⟩
  rw [ho] at op1 f1 f2 eq b2
  simp only at op1 f1 f2 eq b2
  obtain ⟨x1, w1, rfl, sx1, sw1, fx1, fw1, st1⟩ := op1.step
  simp only at sx1 sw1
  obtain ⟨v2, P2⟩ := P1.stepL st1
  refine ⟨er, cf, es, x1, w1, t2, v2, rfl, sx1, sw1, f1, f2, P2, b2, fx1, fw1, fun H2 c2 => ?_⟩
  refine (ropen_ok (P2.keep c2).right (by unfold byT at hb; rw [eb]; exact hb) (by rw [eb]; omega)).mono ?_
  rintro ⟨r2, H3⟩ op2
  rcases ho2 : openT r with ⟨⟨er2, cf2, es2⟩, r2'⟩
  rw [ho2] at op2 eq
  obtain ⟨ee, eq2⟩ := eq
  cases ee
  obtain ⟨y1, z1, rfl, sy1, sz1, fy1, fz1, st2⟩ := op2.step
  simp only at sy1 sz1 st2
  obtain ⟨u2, P3⟩ := (P2.keep c2).stepR st2
  obtain ⟨u3, -, cg2, -⟩ := st2
  have hu := P1.right.mine.lt
  have hq := P1.right.lt
  have nF : ∀ i, H.length ≤ i → i ∉ q :: blk u := fun i hi h => by
    rcases List.mem_cons.1 h with h | h
    · omega
    · have := hu _ h; omega
  exact ⟨y1, z1, rfl, sy1, sz1, (sx1.keep c2).chg cg2 fun i hi => nF i (fx1 i hi), (sw1.keep c2).chg cg2 fun i hi => nF i (fw1 i hi), ⟨_, _, _, _, P3, eq2, b2⟩, cg2⟩
theorem do_ok {c : Cf} {x vb : AV} {xs : List Int} {kd seed n kp : Int} (P : Pair H0 H p v t q u r) (e : eqT t r) (hb : byT t) (hs : SI H0 x c.ins) (hr : rightC c = true) (hf : FitC c) (hv : B8 H0 vb xs) (hx : Byt xs) (hl : xs.length ≤ 100) (hkd : 0 ≤ kd ∧ kd < 256) (hsd : U64 seed) (hn : n ≤ 9223372036854775807) (hk : 1060000 < k) :
    Hx (callA ap k (.func 36 [] []) [.ptr (some (p, 0)), .ptr (some (q, 0)), .agg (c.cs x), .agg [.int .u8 kd, .int .u64 seed, vb, .int .i64 n, .int .i64 kp]] 0 H) fun z => z.1 = .bool true ∧ Both H0 p q z.2 := by
  obtain ⟨k, rfl⟩ : ∃ k', k = k' + 61 := ⟨k - 61, by omega⟩
  rw [hx_go fn36 rfl, b36]
  have lc := right_len hr
  obtain ⟨a, cc, s, rfl⟩ := hv.len8
  obtain ⟨xa, xc, xs', rfl⟩ := SI.form hs
  have c1 : Chg [] H (H ++ [.cells (c.cs (.slice xa c.ins.length xc xs')) .rw, .cells [.int .u8 kd, .int .u64 seed, .slice a xs.length cc s, .int .i64 n, .int .i64 kp] .rw]) := .app _ _
  simp only [Cf.cs] at c1
  obtain ⟨G, eG⟩ : ∃ G, G = H ++ [.cells (c.cs (.slice xa c.ins.length xc xs')) .rw, .cells [.int .u8 kd, .int .u64 seed, .slice a xs.length cc s, .int .i64 n, .int .i64 kp] .rw] := ⟨_, rfl⟩
  have P1 := P.keep c1
  have r6 : G[H.length]? = some (.cells (c.cs (.slice xa c.ins.length xc xs')) .rw) := by rw [eG]; simp
  have r7 : G[H.length + 1]? = some (.cells [.int .u8 kd, .int .u64 seed, .slice a xs.length cc s, .int .i64 n, .int .i64 kp] .rw) := by rw [eG]; simp
  have hGl : G.length = H.length + 2 := by rw [eG]; simp
  simp only [Cf.cs] at eG r6
  simp [f36, Cf.cs]
  rw [← eG] at P1 c1 ⊢
  have nL : ∀ i, H.length ≤ i → i ∉ p :: blk v := fun i hi h => by
    rcases List.mem_cons.1 h with h | h
    · have := P.left.lt; omega
    · have := P.left.mine.lt i h; omega
  have nR : ∀ i, H.length ≤ i → i ∉ q :: blk u := fun i hi h => by
    rcases List.mem_cons.1 h with h | h
    · have := P.right.lt; omega
    · have := P.right.mine.lt i h; omega
  have xp : ∀ i ∈ blk (.slice a xs.length cc s), i < H0.length := hv.lt
  have hp0 := P.hp
  have hq0 := P.hq
  by_cases k3 : kd.tmod 8 = 3
  · simp [k3, rowOf_rw r7]
    refine Hx.mapp (do_open P1 e hb (by omega)) ?_
    rintro ⟨r1, H1⟩ ⟨er, cf, es, x1, w1, t2, v2, rfl, sx1, sw1, f1, f2, P2, b2, fx1, fw1, hro⟩
    simp only at sx1 sw1 P2 hro
    obtain ⟨G2, e2⟩ : ∃ G2, G2 = H1 ++ [.cells (cf.cs x1) .rw] := ⟨_, rfl⟩
    have c2 : Chg [] H1 G2 := by rw [e2]; exact .app _ _
    have g2 : G2[H1.length]? = some (.cells (cf.cs x1) .rw) := by rw [e2]; simp
    obtain ⟨a1, d1, s1, rfl⟩ := SI.form sx1
    obtain ⟨a2, d2, s2, rfl⟩ := SE.form sw1
    simp only [Cf.cs] at e2 g2
    simp [Cf.cs]
    rw [← e2]
    refine Hx.mapp (hro G2 c2) ?_
    rintro ⟨r2, H3⟩ ⟨y1, z1, rfl, sy1, sz1, sx3, sw3, bo, cg2⟩
    simp only at sy1 sz1 sx3 sw3 bo cg2
    have lq2 : H1.length ∉ q :: blk u := fun h => by
      have l0 := P1.right.lt
      have l1 := P2.right.lt
      rcases List.mem_cons.1 h with h | h
      · omega
      · have := P2.right.mine.lt _ h; omega
    have g3 := cg2.get g2 lq2
    obtain ⟨a3, d3, s3, rfl⟩ := SI.form sy1
    obtain ⟨a4, d4, s4, rfl⟩ := SE.form sz1
    obtain ⟨G4, e4⟩ : ∃ G4, G4 = H3 ++ [.cells (cf.cs (.slice a3 cf.ins.length d3 s3)) .rw] := ⟨_, rfl⟩
    have c4 : Chg [] H3 G4 := by rw [e4]; exact .app _ _
    have g4 := c4.get g3 (by simp)
    have g4' : G4[H3.length]? = some (.cells (cf.cs (.slice a3 cf.ins.length d3 s3)) .rw) := by rw [e4]; simp
    have hsm := P.left.small
    have htop := P.left.top
    obtain ⟨q1, q2⟩ := opens_eq (k := k + 60) (sx3.keep c4) (sy1.keep c4) (sw3.keep c4) (sz1.keep c4) f1 (by omega) (by omega)
    simp only [Cf.cs] at e4 g4' q1
    simp [Cf.cs]
    rw [← e4]
    simp [rowOf_rw g4, rowOf_rw g4']
    refine Hx.mapp q1 ?_
    rintro ⟨r5, H5⟩ ⟨er5, c5⟩
    simp only at er5 c5
    subst er5
    simp
    refine Hx.mapp (q2 H5 c5) ?_
    rintro ⟨r6, H6⟩ ⟨er6, c6⟩
    simp only at er6 c6
    subst er6
    simp
    obtain ⟨t', r', v', u', P', e', b'⟩ := bo
    exact ⟨t', r', v', u', P'.keep ((c4.tr c5).tr c6), e', b'⟩
  by_cases k4 : kd.tmod 8 = 4
  · simp [k4, rowOf_rw r7]
    refine Hx.mapp (Tp.arm_ok P1.left hn) ?_
    rintro ⟨r1, H1⟩ ⟨er, st1⟩
    simp only at er st1
    subst er
    obtain ⟨v1, P2⟩ := P1.stepL st1
    obtain ⟨-, -, cg1, -⟩ := st1
    have r7' := cg1.get r7 (nL _ (by omega))
    simp [rowOf_rw r7']
    refine Hx.mapp (Tp.rarm_ok P2.right hn) ?_
    rintro ⟨r2, H2⟩ ⟨er, st2⟩
    simp only at er st2
    subst er
    obtain ⟨u1, P3⟩ := P2.stepR st2
    simp
    exact ⟨_, _, _, _, P3, Tp.arm_eq e _ _, by unfold byT Tp.armT; split <;> exact hb⟩
  by_cases k5 : kd.tmod 8 = 5
  · simp [k5, rowOf_rw r7]
    refine Hx.mapp (Tp.wake_ok P1.left) ?_
    rintro ⟨r1, H1⟩ ⟨er, st1⟩
    simp only at er st1
    subst er
    obtain ⟨v1, P2⟩ := P1.stepL st1
    simp
    refine Hx.mapp (Tp.rwake_ok P2.right) ?_
    rintro ⟨r2, H2⟩ ⟨er, st2⟩
    simp only at er st2
    subst er
    obtain ⟨u1, P3⟩ := P2.stepR st2
    simp
    exact ⟨_, _, _, _, P3, Tp.wake_eq e, hb⟩
  by_cases k6 : kd.tmod 8 = 6
  · simp [k6, rowOf_rw r7]
    refine hx_drawn dc36_15 fun H2 c2 _ _ => ?_
    have P2 := P1.keep c2
    have g2 := c2.get r7 (by simp)
    simp [d36_15, rowOf_rw g2]
    refine Hx.mapp (Tp.append_ok P2.left (hv.keep P2.chg) (fun h => by have := xp _ h; omega) (by omega)) ?_
    rintro ⟨_, H3⟩ ⟨rfl, s3⟩
    simp only at s3
    have g3 : H3[H.length + 1]? = some (.cells [.int .u8 kd, .int .u64 seed, .slice a xs.length cc s, .int .i64 n, .int .i64 kp] .rw) := by
      obtain ⟨_, _, c, _⟩ := s3
      exact c.get g2 (nL _ (by omega))
    obtain ⟨v', P3⟩ := P2.stepL s3
    simp
    refine Hx.mapp (Tp.rappend_ok P3.right (hv.keep P3.chg) (fun h => by have := xp _ h; omega) (by omega)) ?_
    rintro ⟨_, H4⟩ ⟨rfl, s4⟩
    simp only at s4
    obtain ⟨u', P4⟩ := P3.stepR s4
    simp [rowOf_rw g3, (Tp.appT_eq e xs).1]
    exact ⟨_, _, _, _, P4, (Tp.appT_eq e xs).2, byT_app hb hx⟩
  by_cases k7 : kd.tmod 8 = 7
  · simp [k7, rowOf_rw r7]
    refine hx_drawn dc36_17 fun H2 c2 _ _ => ?_
    have P2 := P1.keep c2
    have g2 := c2.get r6 (by simp)
    have es := startT_eq e c
    have key := start_ok (k := k + 60) P2.left (hs.keep P2.chg) hf (by omega) (by omega)
    simp only [Cf.cs] at key
    simp [d36_17, rowOf_rw g2]
    refine Hx.mapp key ?_
    rintro ⟨_, H3⟩ ⟨rfl, s3⟩
    simp only at s3
    have g3 : H3[H.length]? = some (.cells (c.cs (.slice xa c.ins.length xc xs')) .rw) := by
      obtain ⟨_, _, c, _⟩ := s3
      exact c.get g2 (nL _ (by omega))
    obtain ⟨v', P3⟩ := P2.stepL s3
    have key := rstart_ok (k := k + 60) P3.right (hs.keep P3.chg) hf (by omega) (by omega)
    simp only [Cf.cs] at key g3
    simp
    refine Hx.mapp key ?_
    rintro ⟨_, H4⟩ ⟨rfl, s4⟩
    simp only at s4
    obtain ⟨u', P4⟩ := P3.stepR s4
    simp [rowOf_rw g3, es.1]
    exact ⟨_, _, _, _, P4, es.2, byT_start hb hf⟩
  have sh : ∀ j : Int, U64 (ishr .u64 seed j) := fun j => by
    unfold ishr
    rw [Int.fdiv_eq_ediv_of_nonneg _ (by exact_mod_cast Nat.zero_le _)]
    have h1 := Int.ediv_le_self (2 ^ (min j.toNat IntKind.u64.bits) : Int) hsd.1
    have h2 := hsd.2
    exact ⟨Int.ediv_nonneg hsd.1 (by exact_mod_cast Nat.zero_le _), by omega⟩
  simp [k3, k4, k5, k6, k7, rowOf_rw r7]
  refine hx_drawn dc36_18 fun H2 c2 hl2 hd2 => ?_
  have g6 := c2.get r6 (by simp)
  have g7 := c2.get r7 (by simp)
  have z17 := hd2 17 (by decide)
  have z21 := hd2 21 (by decide)
  obtain ⟨m, hm⟩ : ∃ m, m = G.length + 17 := ⟨_, rfl⟩
  obtain ⟨m2, hm2⟩ : ∃ m, m = G.length + 21 := ⟨_, rfl⟩
  rw [← hm] at z17
  rw [← hm2] at z21
  obtain ⟨L, hL⟩ : ∃ L, L = [seed, ishr .u64 seed 7, ishr .u64 seed 13, ishr .u64 seed 22, ishr .u64 seed 31, ishr .u64 seed 40] := ⟨_, rfl⟩
  obtain ⟨A, eA⟩ : ∃ A, A = H2.set m (.cells (u64s L) .rw) := ⟨_, rfl⟩
  have cA : Chg [m] H2 A := by rw [eA]; exact .set _ _ _
  have lA := lt_of_get z17
  have q6 := set_row (p := m) (rowOf_rw g6) (by omega)
  have q7 := set_row (p := m) (rowOf_rw g7) (by omega)
  have sA : SL A 1 (.slice (some (m, 0)) 6 (some 6) 1) (u64s L) := by
    rw [eA]
    exact SL.mk Nat.one_pos (rowOf_self lA) (by simp [hL]) (by simp)
  have hLu : ∀ y ∈ L, U64 y := by
    rw [hL]
    simp only [List.mem_cons, List.not_mem_nil, or_false]
    rintro y (rfl | rfl | rfl | rfl | rfl | rfl)
    · exact hsd
    all_goals exact sh _
  have z21A : A[m2]? = some dead0 := cA.get z21 (by simp; omega)
  have g6A := cA.get g6 (by simp; omega)
  have g7A := cA.get g7 (by simp; omega)
  have lAl := cA.1
  have l2 := c2.1
  have lH0 := P.chg.1
  have lH1 := c1.1
  simp only [hL, u64s, List.map_cons, List.map_nil] at eA
  simp [d36_18, ← hm, ← hm2, rowOf_rw g7, rowOf_rw g6, z17, z21, q6, q7]
  rw [← eA]
  refine Hx.mapp (of_ok sA hLu) ?_
  rintro ⟨r1, H3⟩ ⟨er, dk, c3⟩
  simp only at er dk c3
  subst er
  have key := event_ok (k := k + 20) dk (by omega) ((hs.keep (P1.keep c2).chg).chg (cA.trans c3 (by simp)) (fun i hi h => by have := hs.lt i hi; simp at h; omega)) (fun h => by have := hs.lt _ h; omega) hr
  have g6B := c3.get g6A (by simp)
  have g7B := c3.get g7A (by simp)
  have z21B := c3.get z21A (by simp)
  simp only [Cf.cs] at key
  simp
  refine Hx.mapp key ?_
  rintro ⟨r1, H4⟩ ⟨ev, er, hrt, dk4, c4⟩
  simp only at er dk4 c4
  subst er
  have g6C := c4.get g6B (by simp; omega)
  have g7C := c4.get g7B (by simp; omega)
  have l21 := lt_of_get z21A
  have z21C := c4.get z21B (by simp; omega)
  have d1 : isDeadB A[m2]? = true := by rw [z21A]; rfl
  have d2 : isDeadB H3[m2]? = true := by rw [z21B]; rfl
  have d3 : isDeadB H4[m2]? = true := by rw [z21C]; rfl
  have lC := lt_of_get z21C
  have q7B : ∀ X, rowOf (H4.set m2 X) (H.length + 1) = _ := set_row (rowOf_rw g7C) (by omega)
  have cH4 : Chg [] G H4 := ((c2.trans cA (by simp; omega)).tr c3).trans c4 (by simp; omega)
  simp [← hm2, d1, d2, d3, rowOf_rw g6B, rowOf_rw g7A, rowRw_self lC, E8.cs, q7B]
  obtain ⟨B, eB⟩ : ∃ B, B = H4.set m2 (.cells ev.cs .rw) := ⟨_, rfl⟩
  have cB : Chg [m2] H4 B := by rw [eB]; exact .set _ _ _
  have gB : B[m2]? = some (.cells ev.cs .rw) := by rw [eB]; exact List.getElem?_set_self lC
  have cGB : Chg [] G B := cH4.trans cB (by simp; omega)
  have m2G : G.length ≤ m2 := by omega
  simp only [E8.cs] at eB gB
  rw [← eB]
  have fin : ∀ (B : AH) (e' : E8) (env : List AV), Chg [] G B → B[m2]? = some (.cells e'.cs .rw) → get env 0 = .ptr (some (p, 0)) → get env 1 = .ptr (some (q, 0)) → get env 15 = .ptr (some (m2, 0)) → 118 = env.length →
      Hx (evDraw ap (callA ap (k + 60)) 0 (drawOf T.c36 21) [0, 1, 3, 4, 2, 5, 6, 7] [[], [], [0, 1], [], [], [0, 1, 2, 3, 4], [0, 1, 2, 3, 4, 5], [0, 1, 2, 3, 4, 5, 6]] env B) fun z => get z.1 8 = .bool true ∧ Both H0 p q z.2 := by
    intro B e' env cGB gB e0 e1 e15 el
    refine hx_drawn dc36_21 fun H5 c5 _ _ => ?_
    have P5 := P1.keep (cGB.tr c5)
    have g5 := c5.get gB (by simp)
    have key := add_ok (k := k + 60) (e := e') P5.left (by omega)
    have ea := addT_eq e e'
    simp only [E8.cs] at key g5
    have gs : ∀ (env : List AV) (i j : Nat) (v : AV), i ≠ j → get (env.set i v) j = get env j := fun env i j v h => by simp [Ab.get, List.getElem?_set_ne h]
    have gt : ∀ (env : List AV) (i : Nat) (v : AV), i < env.length → get (env.set i v) i = v := fun env i v h => by simp [Ab.get, h]
    simp [d36_21, e0, e1, e15, gs, gt, ← el, rowOf_rw g5]
    refine Hx.mapp key ?_
    rintro ⟨_, H6⟩ ⟨rfl, s3⟩
    simp only at s3
    have g6 : H6[m2]? = some (.cells e'.cs .rw) := by
      obtain ⟨_, _, c, _⟩ := s3
      exact c.get g5 (nL _ (by omega))
    obtain ⟨v', P6⟩ := P5.stepL s3
    have key := radd_ok (k := k + 60) (e := e') P6.right (by omega)
    simp only [E8.cs] at key g6
    simp [gs, gt, ← el]
    refine Hx.mapp key ?_
    rintro ⟨_, H7⟩ ⟨rfl, s4⟩
    simp only at s4
    obtain ⟨u', P7⟩ := P6.stepR s4
    simp [gs, gt, ← el, rowOf_rw g6, ea.1, e0, e1, e15]
    exact ⟨_, _, _, _, P7, ea.2, byT_add hb⟩
  have lB := lt_of_get gB
  by_cases h240 : 240 < kd
  · simp [h240, rowRw_rw gB]
    refine (fin _ { ev with q := -1 } _ (cGB.set_new m2G _) (by simp [E8.cs, lB]) rfl rfl rfl rfl).mono ?_
    rintro ⟨env, H9⟩ ⟨h1, h2⟩
    simp only at h1 h2
    simp [h1]
    exact h2
  · simp [h240]
    refine (fin _ ev _ cGB (by simp [E8.cs, gB]) rfl rfl rfl rfl).mono ?_
    rintro ⟨env, H9⟩ ⟨h1, h2⟩
    simp only at h1 h2
    simp [h1]
    exact h2
end
end Go.Proofs.Ytcmpldjoggeceaa.T.Jn
end
section
/-! Arguments of a law: a row of uint64. -/
set_option linter.unusedVariables false
set_option linter.unusedSimpArgs false
namespace Go.Proofs.Ytcmpldjoggeceaa.T
open Go Go.Ab
theorem ar_u64s {m : Nat} {H : AH} {t e : Nat} {ti te : TI} {al : List AV} (h : AR ap m H t al) (ht : ap.ty t = some ti) (htd : ti.td = .slice e) (he : ap.ty e = some te) (hed : te.td = .int .u64) (hes : te.sz = 1) :
    ∃ v L, al = [v] ∧ SL H 1 v (u64s L) ∧ ∀ x ∈ L, U64 x := by
  obtain ⟨v, es, m2, rfl, hs, hx⟩ := ar_slice h ht htd he
  rw [hes] at hs
  obtain ⟨l, hl, hq⟩ := list_choose (R := fun (x : List AV) (a : Int) => x = [.int .u64 a] ∧ U64 a) es (fun x hm => by
    obtain ⟨z, rfl, w⟩ := ar_int (hx x hm).2 he hed
    refine ⟨z, rfl, ?_⟩
    simp [Lit.wf, IntKind.has, IntKind.min, IntKind.max, IntKind.bits, IntKind.signed] at w
    unfold U64; omega)
  have hes : es.flatten = u64s l := by
    have : es = l.map fun a => [AV.int .u64 a] := by
      refine List.ext_getElem? fun i => ?_
      rw [List.getElem?_map]
      by_cases hi : i < es.length
      · have := hq i es[i] l[i] (List.getElem?_eq_getElem hi) (List.getElem?_eq_getElem (by omega))
        rw [List.getElem?_eq_getElem hi, List.getElem?_eq_getElem (by omega), this.1]
        rfl
      · rw [List.getElem?_eq_none (by omega), List.getElem?_eq_none (by omega)]
        rfl
    rw [this]
    unfold u64s
    clear hs hq hl hx this
    induction l with
    | nil => rfl
    | cons x l ih => simp only [List.map_cons, List.flatten_cons, List.singleton_append]; rw [ih]
  refine ⟨v, l, rfl, by rw [hes] at hs; exact hs, fun x hm => ?_⟩
  obtain ⟨i, hi⟩ := List.getElem?_of_mem hm
  have hil : i < l.length := (List.getElem?_eq_some_iff.1 hi).1
  exact (hq i _ _ (List.getElem?_eq_getElem (by omega : i < es.length)) hi).2
theorem wf_u8 {z : Int} (h : (Lit.int .u8 z).wf = true) : 0 ≤ z ∧ z < 256 := by
  simp [Lit.wf, IntKind.has, IntKind.min, IntKind.max, IntKind.bits, IntKind.signed] at h
  omega
theorem wf_i64' {z : Int} (h : (Lit.int .i64 z).wf = true) : I64 z := by
  simp [Lit.wf, IntKind.has, IntKind.min, IntKind.max, IntKind.bits, IntKind.signed] at h
  unfold I64; omega
end Go.Proofs.Ytcmpldjoggeceaa.T
end
section
/-! JournalPlays. -/
set_option linter.unusedVariables false
set_option linter.unusedSimpArgs false
set_option maxHeartbeats 4000000
set_option maxRecDepth 100000
namespace Go.Proofs.Ytcmpldjoggeceaa.T.Jn
open Go Go.Ab
open Tp (At TS Step appT cutT armT wakeT Pair eqT byT)
structure Act where
  kd : Int
  sd : Int
  xs : List Int
  n : Int
  kp : Int
/-- An act's cells. -/
def ActC (H : AH) (cs : List AV) (a : Act) : Prop := ∃ x, cs = [.int .u8 a.kd, .int .u64 a.sd, x, .int .i64 a.n, .int .i64 a.kp] ∧ B8 H x a.xs ∧ Byt a.xs ∧ (0 ≤ a.kd ∧ a.kd < 256) ∧ U64 a.sd ∧ a.n ≤ 9223372036854775807
def Acts (H : AH) (v : AV) (l : List Act) : Prop := ∃ es : List (List AV), es.length = l.length ∧ SL H 5 v es.flatten ∧ (∀ x ∈ es, x.length = 5) ∧ ∀ (i : Nat) x a, es[i]? = some x → l[i]? = some a → ActC H x a
section
variable {H0 H H' : AH} {p q k : Nat} {v u : AV} {t t' r r' : TS} {l : List Act}
theorem ActC.keep {cs : List AV} {a : Act} (h : ActC H cs a) (c : Chg [] H H') : ActC H' cs a := by
  obtain ⟨x, h1, h2, h3⟩ := h
  exact ⟨x, h1, h2.keep c, h3⟩
theorem Acts.keep (h : Acts H v l) (c : Chg [] H H') : Acts H' v l := by
  obtain ⟨es, h1, h2, h3, h4⟩ := h
  exact ⟨es, h1, h2.keep c, h3, fun i x a g1 g2 => (h4 i x a g1 g2).keep c⟩
theorem Acts.form (h : Acts H v l) : ∃ a c s, v = .slice a l.length c s := by
  obtain ⟨es, h1, h2, h3, h4⟩ := h
  obtain ⟨a, c, s, rfl⟩ := sle_form h2 h3 (by omega)
  exact ⟨a, c, s, by rw [h1]⟩
theorem Acts.get (h : Acts H v l) {i : Nat} (hi : i < l.length) : ∃ b o c r x, v = .slice (some (b, o)) l.length c 5 ∧ rowOf H b = some r ∧ o + i * 5 + 5 ≤ r.length ∧ (r.drop (o + i * 5)).take 5 = x ∧ (∀ j, j < 5 → r[o + i * 5 + j]? = x[j]?) ∧ ActC H x l[i] := by
  obtain ⟨es, h1, h2, h3, h4⟩ := h
  obtain ⟨b, o, c, r, rfl, g1, g2, g3, g4⟩ := sle_get h2 h3 (by omega) (i := i) (x := es[i]) (List.getElem?_eq_getElem (by omega))
  exact ⟨b, o, c, r, _, by rw [h1], g1, g2, g3, g4, h4 i _ _ (List.getElem?_eq_getElem (by omega)) (List.getElem?_eq_getElem hi)⟩
theorem ar_acts {m : Nat} {al : List AV} (h : AR ap m H 69 al) : ∃ v l, al = [v] ∧ Acts H v l := by
  obtain ⟨v, es, m', rfl, h1, h2⟩ := ar_slice h ty69 rfl ty72
  obtain ⟨l, g1, g2⟩ := list_choose (R := ActC H) es fun x hx => by
    obtain ⟨parts, m2, rfl, k2, k3⟩ := ar_struct (h2 x hx).2 ty72 rfl
    match parts, k2 with
    | [p0, p1, p2, p3, p4], _ =>
      obtain ⟨z0, rfl, w0⟩ := ar_int (k3 0 (0, 5) p0 rfl rfl) ty5 rfl
      obtain ⟨zs, rfl, ws⟩ := ar_int (k3 1 (1, 70) p1 rfl rfl) ty70 rfl
      obtain ⟨v1, bs, rfl, w1, w1'⟩ := ar_bytes (k3 2 (2, 41) p2 rfl rfl) ty41 rfl ty5 rfl rfl
      obtain ⟨z2, rfl, w2⟩ := ar_int (k3 3 (3, 3) p3 rfl rfl) ty3 rfl
      obtain ⟨z3, rfl, w3⟩ := ar_int (k3 4 (4, 3) p4 rfl rfl) ty3 rfl
      simp [Lit.wf, IntKind.has, IntKind.min, IntKind.max, IntKind.bits, IntKind.signed] at w0 w2 ws
      exact ⟨⟨z0, zs, bs, z2, z3⟩, v1, rfl, w1, w1', by simp only; omega, by simp only [U64]; omega, by simp only; omega⟩
  exact ⟨v, l, rfl, es, g1.symm, h1, fun x hx => (h2 x hx).1, g2⟩
theorem journalPlays_ok {w : AV} {L : List Int} {room : Int} (hw : SL H0 1 w (u64s L)) (hL : ∀ x ∈ L, U64 x) (h : Acts H0 v l) (hk : 1070000 < k) : Hx (callA ap k (.func 7 [] []) [w, .int .i64 room, v] 0 H0) fun r => r.1 = .bool true := by
  obtain ⟨k, rfl⟩ : ∃ k', k = k' + 61 := ⟨k - 61, by omega⟩
  rw [hx_go fn7 rfl, b7]
  obtain ⟨a, c, s, rfl⟩ := h.form
  obtain ⟨wa, wn, wc, ws, rfl, -⟩ := hw.form
  simp [f7]
  refine Hx.mapp (known_ok (by omega)) ?_
  rintro ⟨r, H1⟩ ⟨er, c1⟩
  simp only at er c1
  subst er
  by_cases h30 : 30 < (l.length : Int)
  · simp [h30]
  simp [h30]
  refine hx_up (fun i st => st = ⟨sp 60 [(0, .slice wa wn wc ws), (1, .int .i64 room), (2, .slice a l.length c s), (7, .int .i64 i)], H1, []⟩ ∧ ∀ j (h : j < l.length), j < i → l[j].xs.length ≤ 100) l.length ?_ ?_ (by omega) ⟨by simp [maskS], by simp⟩
  · rintro i st hi ⟨rfl, hin⟩
    obtain ⟨b, o, c', r, x, e, g1, g2, g3, g4, ha⟩ := (h.keep c1).get hi
    cases e
    obtain ⟨y, rfl, hy, _⟩ := ha
    obtain ⟨az, cz, sz, rfl⟩ := hy.len8
    have g41 := g4 2 (by omega)
    simp only [List.getElem?_cons_succ, List.getElem?_cons_zero] at g41
    have hi' : (i : Int) < l.length := by omega
    have w : IntKind.i64.wrap ((i : Int) + 1) = (i : Int) + 1 := wrap_i64 (by omega) (by omega)
    by_cases h4 : 100 < l[i].xs.length
    · have h4' : 100 < (l[i].xs.length : Int) := by omega
      generalize hm : l[i].xs.length = m at *
      simp [hi', hi, g1, g41, h4']
    · have h4' : ¬ 100 < (l[i].xs.length : Int) := by omega
      have h4'' : l[i].xs.length ≤ 100 := by omega
      generalize hm : l[i].xs.length = m at *
      simp [hi', hi, g1, g41, h4', w, maskS]
      intro j hj hj2
      by_cases hji : j = i
      · subst hji; rw [hm]; exact h4''
      · exact hin j hj (by omega)
  · rintro st ⟨rfl, hin⟩
    simp
    refine Hx.mapp (of_ok (hw.keep c1) hL) ?_
    rintro ⟨r, H2⟩ ⟨er, dk, c2⟩
    simp only at er dk c2
    subst er
    simp
    refine Hx.mapp (config_ok (k := k + 40) dk (by omega)) ?_
    rintro ⟨r, H3⟩ ⟨cv, cf, er, mv, hr, hf, dk3, c3, fv⟩
    simp only at er mv dk3 c3 fv
    subst er
    have c03 : Chg [] H0 H3 := (c1.tr c2).trans c3 (by have := c1.1; simp; omega)
    obtain ⟨va, vc, vs, rfl⟩ := SI.form (l := cf.ins) mv.sl
    obtain ⟨H4, e4⟩ : ∃ H4, H4 = H3 ++ [.cells (cf.cs (.slice va cf.ins.length vc vs)) .rw] := ⟨_, rfl⟩
    have c4 : Chg [] H3 H4 := by rw [e4]; exact .app _ _
    have g4 : H4[H3.length]? = some (.cells (cf.cs (.slice va cf.ins.length vc vs)) .rw) := by rw [e4]; simp
    have s4 : SI H4 (.slice va cf.ins.length vc vs) cf.ins := mv.sl.keep c4
    have c04 := c03.tr c4
    have P := Pair.make (H0 := H4) room
    have n1 := fun lo H => @Tp.new_ok (k + 59) lo H room
    have n2 := fun lo H => @Tp.rnew_ok (k + 59) lo H room
    simp only [Cf.cs] at e4
    simp [Cf.cs]
    rw [← e4]
    simp [n1, n2, eqV]
    generalize (H4 ++ [AB.cells (Tp.tcells (.slice none 0 (some 0) 0) ⟨[], min (max room 0) 1048576, false, false, 0, 0⟩) .rw, .cells (Tp.rcells (.slice none 0 (some 0) 0) ⟨[], min (max room 0) 1048576, false, false, 0, 0⟩) .rw]) = H5 at *
    refine hx_up (fun i st => ∃ H', st = ⟨sp 60 [(2, .slice a l.length c s), (8, .ptr (some (H3.length, 0))), (9, .ptr (some (H4.length, 0))), (10, .ptr (some (H4.length + 1, 0))), (11, .int .i64 i)], H', []⟩ ∧ Both H4 H4.length (H4.length + 1) H') l.length ?_ ?_ (by omega) ⟨H5, by simp [maskS], _, _, _, _, P, .inl rfl, byt_nil⟩
    · rintro i st hi ⟨H6, rfl, t, r, v', u', P6, e6, b6⟩
      obtain ⟨b', o', c'', rr', x', e', g1', g2', g3', g4', ha'⟩ := h.get hi
      cases e'
      have hi' : (i : Int) < l.length := by omega
      have w : IntKind.i64.wrap ((i : Int) + 1) = (i : Int) + 1 := wrap_i64 (by omega) (by omega)
      simp
      simp [hi', hi]
      refine hx_drawn dc7_17 fun H7 c7 _ _ => ?_
      have P7 := P6.keep c7
      have row := rowOf_rw (P7.chg.get g4 (by simp))
      have g1 := (c04.tr P7.chg).row g1' (by simp)
      obtain ⟨y, rfl, hy, hyb, hkd, hsd, hn⟩ := ha'
      have key := do_ok (k := k + 60) P7 e6 b6 s4 hr hf (hy.keep c04) hyb (hin i hi hi) hkd hsd hn (kp := l[i].kp) (by omega)
      simp only [Cf.cs] at row key
      simp [d7_17, hi, hi', row, g1, g2', g3']
      refine Hx.mapp key ?_
      rintro ⟨r8, H8⟩ ⟨er, t8, r8', v8, u8, P8, e8, b8⟩
      simp only at er P8
      subst er
      simp
      refine Hx.mapp (alike_ok P8 e8 b8) ?_
      rintro ⟨r9, H9⟩ ⟨er, c9⟩
      simp only at er c9
      subst er
      simp [w, maskS, row, g1, g2', g3', hi]
      exact ⟨_, _, _, _, P8.keep c9, e8, b8⟩
    · rintro st ⟨H6, rfl, bo⟩
      simp
theorem journalPlays_main (H : AH) (ass : List (List AV)) (hl : ass.length = [22, 3, 69].length) (ha : ∀ (i : Nat) t al, [22, 3, 69][i]? = some t → ass[i]? = some al → AR ap 6 H t al) :
    Hx (callA ap 1100000 (.func 7 [] []) (List.zipWith (argA ap) [22, 3, 69] ass) 0 H) fun r => r.1 = .bool true := by
  obtain ⟨K, hK⟩ : ∃ K, K = 1100000 := ⟨_, rfl⟩
  rw [← hK]
  match ass, hl with
  | [a0, a1, a2], _ =>
    obtain ⟨w, L, rfl, hw, hL⟩ := ar_u64s (ha 0 22 a0 rfl rfl) ty22 rfl ty70 rfl rfl
    obtain ⟨z, rfl, _⟩ := ar_int (ha 1 3 a1 rfl rfl) ty3 rfl
    obtain ⟨v, l, rfl, h1⟩ := ar_acts (ha 2 69 a2 rfl rfl)
    simp only [List.zipWith_cons_cons, List.zipWith_nil_right, argA_one ty22 rfl, argA_one ty3 rfl, argA_one ty69 rfl]
    exact journalPlays_ok hw hL h1 (by omega)
end
end Go.Proofs.Ytcmpldjoggeceaa.T.Jn
end
section
/-! Events that are drawn; JournalOpens. -/
set_option linter.unusedVariables false
set_option linter.unusedSimpArgs false
set_option maxHeartbeats 4000000
set_option maxRecDepth 100000
namespace Go.Proofs.Ytcmpldjoggeceaa.T.Jn
open Go Go.Ab
open Tp (At TS Step appT cutT armT wakeT Pair eqT byT)
section
variable {H0 H1 H H' : AH} {p q k n : Nat} {v u : AV} {t r : TS} {c : Cf}
theorem Pair_base (P : Pair H1 H p v t q u r) (c : Chg [] H0 H1) : Pair H0 H p v t q u r :=
  have h := c.1
  ⟨c.tr P.chg, P.left, P.right, Nat.le_trans h P.hp, Nat.le_trans h P.hq, fun b hb => Nat.le_trans h (P.hv b hb), fun b hb => Nat.le_trans h (P.hu b hb), P.pq, P.pu, P.qv, P.vu⟩
theorem Pair_keepF {F : List Nat} (P : Pair H0 H p v t q u r) (c : Chg F H H') (hF : ∀ i ∈ F, H0.length ≤ i ∧ i ≠ p ∧ i ≠ q ∧ i ∉ blk v ∧ i ∉ blk u) : Pair H0 H' p v t q u r :=
  ⟨P.chg.trans c fun i hi => .inr (hF i hi).1, P.left.chg c (fun h => (hF p h).2.1 rfl) (fun i hi h => (hF i h).2.2.2.1 hi), P.right.chg c (fun h => (hF q h).2.2.1 rfl) (fun i hi h => (hF i h).2.2.2.2 hi), P.hp, P.hq, P.hv, P.hu, P.pq, P.pu, P.qv, P.vu⟩
theorem events_ok (h : Dk H p n) (hn : n ≤ 400) (hs : SI H v c.ins) (hv : p ∉ blk v) (hr : rightC c = true) :
    Hx (callA ap (k + 100) (.func 11 [] []) [.ptr (some (p, 0)), .agg (c.cs v)] 0 H) fun r => ∃ es, Mine r.2 8 r.1 (evsC es) ∧ (∀ e ∈ es, rt e = true) ∧ es.length ≤ 11 ∧ Dk r.2 p (n + 500) ∧ Chg [p] H r.2 ∧ ∀ b ∈ blk r.1, H.length ≤ b := by
  rw [hx_go fn11 rfl, b11]
  have hpl := h.lt
  obtain ⟨va, vc, vs, rfl⟩ := SI.form hs
  obtain ⟨G, eG⟩ : ∃ G, G = H ++ [.cells (c.cs (.slice va c.ins.length vc vs)) .rw] := ⟨_, rfl⟩
  have cG : Chg [] H G := by rw [eG]; exact .app _ _
  have gG : G[H.length]? = some (.cells (c.cs (.slice va c.ins.length vc vs)) .rw) := by rw [eG]; simp
  have lG : G.length = H.length + 1 := by rw [eG]; simp
  simp only [Cf.cs] at eG
  simp [f11, Cf.cs]
  rw [← eG]
  refine Hx.mapp (n_ok (h.keep cG) (by omega) (m := 12) (by omega) (by omega)) ?_
  rintro ⟨r', H2⟩ ⟨x, e, hx, d2, c2⟩
  simp only at e d2 c2
  subst e
  obtain ⟨j, rfl⟩ : ∃ j : Nat, x = j := ⟨x.toNat, by omega⟩
  simp
  refine hx_down (fun j st => ∃ H' w es, st = ⟨sp 20 [(0, .ptr (some (p, 0))), (3, .ptr (some (H.length, 0))), (5, w), (6, .int .i64 (j : Nat))], H', []⟩ ∧ Dk H' p (n + 1 + 40 * es.length) ∧ H'[H.length]? = some (.cells (c.cs (.slice va c.ins.length vc vs)) .rw) ∧ Chg [p] H H' ∧
    Mine H' 8 w (evsC es) ∧ (∀ b ∈ blk w, H.length < b) ∧ (∀ e ∈ es, rt e = true) ∧ es.length + j ≤ 11) (j := j) ?_ (by omega) ⟨H2, .slice none 0 (some 0) 0, [], by simp [maskS], by simpa using d2, c2.get gG (by simp; omega), cG.nil.tr' c2, .nil _ _, by simp, by simp, by simp; omega⟩
  rintro j st ⟨H3, w, es, rfl, d3, g3, c3, m3, f3, hes, hl⟩
  obtain ⟨wa, wn, wc, ws, rfl, -⟩ := m3.sl.form
  cases j with
  | zero =>
    simp
    exact ⟨es, m3, hes, by omega, d3.more (by omega), c3, fun b hb => Nat.le_of_lt (f3 b hb)⟩
  | succ j =>
    have h0 : (0 : Int) < (j : Int) + 1 := by omega
    have w1 : IntKind.i64.wrap (j : Int) = (j : Int) := wrap_i64 (by omega) (by omega)
    have q3 := rowOf_rw g3
    have key := event_ok (k := k + 59) d3 (by omega) (hs.chg c3 (fun i hi h => by simp at h; subst h; exact hv hi)) hv hr
    simp only [Cf.cs] at q3 key
    simp [h0, q3]
    refine Hx.mapp key ?_
    rintro ⟨r', H4⟩ ⟨e, er, hrt, d4, c4⟩
    simp only at er d4 c4
    subst er
    have l3 := lt_of_get g3
    have l4 := c4.1
    obtain ⟨H5, e5⟩ : ∃ H5, H5 = H4 ++ [.cells e.cs .rw] := ⟨_, rfl⟩
    have c5 : Chg [] H4 H5 := by rw [e5]; exact .app _ _
    have s5 : SL H5 8 (.slice (some (H4.length, 0)) 1 (some 1) 8) e.cs := by
      rw [e5]
      exact SL.mk (by omega) (rowOf_rw (by simp)) (by simp [E8.cs]) (by simp)
    have m5 := (m3.chg c4 (fun i hi h => by simp at h; have := f3 i hi; omega)).keep c5
    simp only [E8.cs] at e5
    simp [E8.cs]
    rw [← e5]
    refine Hx.mapp (m5.append s5 (by omega) (by omega) (by simp [E8.cs]) (by simp [E8.cs]; unfold room; omega)) ?_
    rintro ⟨v6, H6⟩ ⟨m6, c6, k6⟩
    simp only at m6 c6 k6
    rw [← evsC_snoc] at m6
    have l5 := c5.1
    simp [w1]
    have hF : ∀ i ∈ blk (.slice wa wn wc ws), H.length < i := f3
    refine ⟨j, by omega, H6, v6, by simp [maskS], es ++ [e], ?_, ?_, ?_, m6, ?_, ?_, ?_⟩
    · refine ((d4.keep c5).chg c6 (fun i hi => by have := hF i hi; omega)).more (by simp; omega)
    · exact c6.get (c5.get (c4.get g3 (by simp; omega)) (by simp)) (fun h => by have := hF _ h; omega)
    · exact ((c3.tr' c4).tr c5).trans c6 (fun i hi => .inr (by have := hF i hi; omega))
    · intro b hb
      rcases k6 b hb with hb | hb
      · exact hF b hb
      · omega
    · intro e' he'
      rcases List.mem_append.1 he' with h | h
      · exact hes e' h
      · simp at h; subst h; exact hrt
    · simp; omega
end
end Go.Proofs.Ytcmpldjoggeceaa.T.Jn
end
section
/-! JournalOpens. -/
set_option linter.unusedVariables false
set_option linter.unusedSimpArgs false
set_option maxHeartbeats 4000000
set_option maxRecDepth 100000
namespace Go.Proofs.Ytcmpldjoggeceaa.T.Jn
open Go Go.Ab
open Tp (At TS Step appT cutT armT wakeT Pair eqT byT)
section
variable {H0 H : AH} {p q k n : Nat} {v u : AV} {t r : TS} {c : Cf}
/-- A tape as new. -/
def t0 : TS := ⟨[], 100000, false, false, 0, 0⟩
theorem appT_t0 {xs : List Int} (h : xs.length ≤ 100000) : appT t0 xs = (0, { t0 with bs := xs }) := by
  unfold appT t0 Tp.lastT
  simp
  omega
theorem journalOpens_ok {w bv : AV} {L bs : List Int} {cut : Int} (hw : SL H0 1 w (u64s L)) (hL : ∀ x ∈ L, U64 x) (hb : B8 H0 bv bs) (hB : Byt bs) (hcut : 0 ≤ cut ∧ cut < 65536) (hk : 1070000 < k) : Hx (callA ap k (.func 6 [] []) [bv, w, .int .u16 cut] 0 H0) fun r => r.1 = .bool true := by
  obtain ⟨k, rfl⟩ : ∃ k', k = k' + 101 := ⟨k - 101, by omega⟩
  rw [hx_go fn6 rfl, b6]
  obtain ⟨ba, bc, bz, rfl⟩ := hb.len8
  obtain ⟨wa, wn, wc, ws, rfl, -⟩ := hw.form
  simp [f6]
  refine Hx.mapp (known_ok (by omega)) ?_
  rintro ⟨r, H1⟩ ⟨er, c1⟩
  simp only at er c1
  subst er
  by_cases h4 : 400 < (bs.length : Int)
  · simp [h4]
  simp [h4]
  refine Hx.mapp (of_ok (hw.keep c1) hL) ?_
  rintro ⟨r, H2⟩ ⟨er, dk, c2⟩
  simp only at er dk c2
  subst er
  have dk2l := dk.lt
  simp
  refine Hx.mapp (config_ok (k := k + 80) dk (by omega)) ?_
  rintro ⟨r, H3⟩ ⟨cv, cf, er, mv, hr, hf, dk3, c3, fv⟩
  simp only at er mv dk3 c3 fv
  subst er
  have c03 : Chg [] H0 H3 := (c1.tr c2).trans c3 (by have := c1.1; simp; omega)
  obtain ⟨va, vc, vs, rfl⟩ := SI.form (l := cf.ins) mv.sl
  obtain ⟨H4, e4⟩ : ∃ H4, H4 = H3 ++ [.cells (cf.cs (.slice va cf.ins.length vc vs)) .rw] := ⟨_, rfl⟩
  have c4 : Chg [] H3 H4 := by rw [e4]; exact .app _ _
  have g4 : H4[H3.length]? = some (.cells (cf.cs (.slice va cf.ins.length vc vs)) .rw) := by rw [e4]; simp
  have s4 : SI H4 (.slice va cf.ins.length vc vs) cf.ins := mv.sl.keep c4
  have c04 := c03.tr c4
  have P0 := Pair_base (Pair.make (H0 := H4) 100000) c04
  have n1 := fun lo H => @Tp.new_ok (k + 99) lo H 100000
  have n2 := fun lo H => @Tp.rnew_ok (k + 99) lo H 100000
  have e10 : min (max (100000 : Int) 0) 1048576 = 100000 := by omega
  rw [e10] at P0 n1 n2
  simp only [Cf.cs] at e4
  simp [Cf.cs]
  rw [← e4]
  simp [n1, n2, eqV]
  obtain ⟨H5, e5⟩ : ∃ H5, H5 = (H4 ++ [AB.cells (Tp.tcells (.slice none 0 (some 0) 0) ⟨[], 100000, false, false, 0, 0⟩) .rw, .cells (Tp.rcells (.slice none 0 (some 0) 0) ⟨[], 100000, false, false, 0, 0⟩) .rw]) := ⟨_, rfl⟩
  have c5 : Chg [] H4 H5 := by rw [e5]; exact .app _ _
  have l5 : H5.length = H4.length + 2 := by rw [e5]; simp
  rw [← e5] at P0 ⊢
  obtain ⟨pd, hpd⟩ : ∃ pd, pd = H1.length := ⟨_, rfl⟩
  rw [← hpd] at dk3 c3 ⊢
  have l01 := c1.1
  have l12 := c2.1
  have l23 := c3.1
  have l34 : H4.length = H3.length + 1 := by rw [e4]; simp
  have dkl := dk3.lt
  have fF : ∀ i ∈ [pd], H0.length ≤ i ∧ i ≠ H4.length ∧ i ≠ H4.length + 1 ∧ i ∉ blk (.slice none 0 (some 0) 0) ∧ i ∉ blk (.slice none 0 (some 0) 0) := by
    intro i hi
    simp at hi
    subst hi
    exact ⟨by omega, by omega, by omega, by simp, by simp⟩
  refine Hx.mapp (yes_ok (k := k + 97) (dk3.keep (c4.tr c5)) (by omega) (m := 2) (by omega) (by omega)) ?_
  rintro ⟨r, H6⟩ ⟨yes, er, dk6, c6⟩
  simp only at er dk6 c6
  subst er
  have P6 := Pair_keepF P0 c6 fF
  have l56 := c6.1
  have q5 : H6.length = H5.length ∨ H5.length ≤ H6.length := .inr l56
  have hbl : ∀ i ∈ blk (.slice ba bs.length bc bz), i < H0.length := hb.lt
  cases yes
  focus
    obtain ⟨H7, xs, xa, xc, xz, hxs, hH, hx7, hX, hxl, fx, P7⟩ : ∃ H7 xs xa xc xz, AV.slice ba bs.length bc bz = AV.slice xa xs.length xc xz ∧ H6 = H7 ∧ B8 H7 (.slice xa xs.length xc xz) xs ∧ Byt xs ∧ xs.length ≤ 3000 ∧ (∀ i ∈ blk (.slice xa xs.length xc xz), i ≠ H4.length ∧ i ≠ H4.length + 1) ∧
        Pair H0 H7 H4.length (.slice none 0 (some 0) 0) t0 (H4.length + 1) (.slice none 0 (some 0) 0) t0 :=
      ⟨H6, bs, ba, bc, bz, rfl, rfl, hb.keep P6.chg, hB, by omega, fun i hi => by have := hbl i hi; omega, P6⟩
    simp
    rw [hxs, hH]
  rotate_left
  focus
    have g6 : H6[H3.length]? = some (.cells (cf.cs (.slice va cf.ins.length vc vs)) .rw) := c6.get (c5.get g4 (by simp)) (by simp; omega)
    have s6 : SI H6 (.slice va cf.ins.length vc vs) cf.ins := ((s4.keep c5).chg c6 (fun i hi h => by simp at h; have := fv i hi; omega))
    have hlr := right_len hr
    have hpl := Pl.putB_len hr
    have key := Pl.rput_ok (k := k + 100) s6 (by omega) hf (by omega)
    simp only [Cf.cs] at key g6
    simp [rowOf_rw g6]
    refine Hx.mapp key ?_
    rintro ⟨r, H7⟩ ⟨y7, er, ny7⟩
    simp only at er ny7
    subst er
    simp only [hr, if_true] at ny7
    simp
    refine Hx.mapp (rframe_ok (k := k + 100) ny7.1.sl (by omega) (by omega)) ?_
    rintro ⟨r, H8⟩ ⟨z8, er, nz8⟩
    simp only at er nz8
    subst er
    obtain ⟨za, zc, zs, rfl⟩ := nz8.1.sl.len8
    simp
    refine Hx.mapp ((Mine.nil (some 0) 0).append nz8.1.sl Nat.one_pos Nat.one_pos u8s_one (by simp [room, Fm.recB_len]; omega)) ?_
    rintro ⟨v9, H9⟩ ⟨m9, c9, k9⟩
    simp only [List.nil_append] at m9 c9 k9
    have c69 : Chg [] H6 H9 := (ny7.2.1.tr nz8.2.1).tr c9
    have f9 : ∀ b ∈ blk v9, H6.length ≤ b := fun b hb => by
      rcases k9 b hb with h | h
      · simp at h
      · have := ny7.2.1.1; have := nz8.2.1.1; omega
    simp
    refine Hx.mapp (n_ok (k := k + 98) (dk6.keep c69) (by omega) (m := 6) (by omega) (by omega)) ?_
    rintro ⟨r, H10⟩ ⟨x, er, hx, d10, c10⟩
    simp only at er d10 c10
    subst er
    obtain ⟨j, rfl⟩ : ∃ j : Nat, x = j := ⟨x.toNat, by omega⟩
    have mk10 := m9.chg c10 (fun i hi h => by simp at h; have := f9 i hi; omega)
    simp
    refine hx_down (fun j st => ∃ H' s sx, st = ⟨sp 138 [(0, .slice ba bs.length bc bz), (2, .int .u16 cut), (7, .ptr (some (pd, 0))), (8, .ptr (some (H3.length, 0))), (9, .ptr (some (H4.length, 0))), (10, .ptr (some (H4.length + 1, 0))), (11, s), (16, .int .i64 (j : Nat))], H', []⟩ ∧
      Dk H' pd (400 - 41 * j) ∧ Chg [pd] H6 H' ∧ Mine H' 1 s (u8s sx) ∧ Byt sx ∧ (sx.length + 57 * j ≤ 700 ∧ j ≤ 5) ∧ ∀ b ∈ blk s, H6.length ≤ b) (j := j) ?_ (by omega)
      ⟨H10, v9, _, by simp [maskS], d10.more (by omega), c69.nil.tr' c10, mk10, Fm.recB_byt (Pl.encs_byt (Pl.flat_i64 hr hf)), ⟨by rw [Fm.recB_len]; omega, by omega⟩, f9⟩
    rintro j' st ⟨H11, s, sx, rfl, d11, c11, m11, hsx, ⟨hsl, hj5⟩, f11⟩
    have l11 := c11.1
    have g11 := c11.get g6 (by simp; omega)
    have s11 : SI H11 (.slice va cf.ins.length vc vs) cf.ins := s6.chg c11 (fun i hi h => by simp at h; have := fv i hi; omega)
    obtain ⟨sa, sc, ss, rfl⟩ := m11.sl.len8
    cases j'
    rotate_left
    focus
      rename_i j'
      have w1 : IntKind.i64.wrap (j' : Int) = (j' : Int) := wrap_i64 (by omega) (by omega)
      have key := event_ok (k := k + 60) d11 (by omega) s11 (fun h => by have := fv _ h; omega) hr
      have h0 : (0 : Int) < (j' : Int) + 1 := by omega
      simp only [Cf.cs] at key
      simp [h0, rowOf_rw g11]
      refine Hx.mapp key ?_
      rintro ⟨r, A1⟩ ⟨e, er, hrt, dA, cA⟩
      simp only at er dA cA
      subst er
      have mA := m11.chg cA (fun i hi h => by simp at h; have := f11 i hi; omega)
      simp
      refine Hx.mapp (Ev.rput_ok (k := k + 40)) ?_
      rintro ⟨r, A2⟩ ⟨y2, er, ny2⟩
      simp only at er ny2
      subst er
      simp only [hrt, if_true] at ny2
      have hpe := putE_len e
      simp
      refine Hx.mapp (rframe_ok (k := k + 100) ny2.1 (by omega) (by omega)) ?_
      rintro ⟨r, A3⟩ ⟨z3, er, nz3⟩
      simp only at er nz3
      subst er
      obtain ⟨za, zc, zs, rfl⟩ := nz3.1.sl.len8
      have cA3 : Chg [] A1 A3 := ny2.2.1.tr nz3.2.1
      simp
      refine Hx.mapp ((mA.keep cA3).append nz3.1.sl Nat.one_pos Nat.one_pos u8s_one (by simp [room, Fm.recB_len]; omega)) ?_
      rintro ⟨v4, A4⟩ ⟨m4, c4', k4⟩
      simp only at m4 c4' k4
      rw [← u8s_app] at m4
      have lA1 := cA.1
      have lA3 := cA3.1
      simp [w1]
      refine ⟨j', by omega, A4, v4, by simp [maskS], ?_, ?_, sx ++ Fm.recB (putE e), m4, Byt.app hsx (Fm.recB_byt (putE_byt hrt)), ?_, fun b hb => ?_⟩
      · exact ((dA.keep cA3).chg c4' (fun i hi => by have := f11 i hi; omega)).more (by omega)
      · exact ((c11.tr' cA).tr cA3).trans c4' (fun i hi => .inr (f11 i hi))
      · exact ⟨by rw [List.length_append, Fm.recB_len]; omega, by omega⟩
      · rcases k4 b hb with h | h
        · exact f11 b h
        · omega
    focus
      simp
      refine Hx.mapp (yes_ok (k := k + 97) d11 (by omega) (m := 3) (by omega) (by omega)) ?_
      rintro ⟨r, B1⟩ ⟨yes, er, dB, cB⟩
      simp only at er dB cB
      subst er
      have mB := m11.chg cB (fun i hi h => by simp at h; have := f11 i hi; omega)
      have lB := cB.1
      have cB6 : Chg [pd] H6 B1 := c11.tr' cB
      have PB := Pair_keepF P6 cB6 fF
      have bB := hb.keep PB.chg
      cases yes
      rotate_left
      focus
        have key := rframe_ok (k := k + 100) bB (by omega) (by omega)
        simp
        refine Hx.mapp key ?_
        rintro ⟨r, B2⟩ ⟨z3, er, nz3⟩
        simp only at er nz3
        subst er
        obtain ⟨za, zc, zs, rfl⟩ := nz3.1.sl.len8
        simp
        refine Hx.mapp ((mB.keep nz3.2.1).append nz3.1.sl Nat.one_pos Nat.one_pos u8s_one (by simp [room, Fm.recB_len]; omega)) ?_
        rintro ⟨v4, B3⟩ ⟨m4, c4', k4⟩
        simp only at m4 c4' k4
        rw [← u8s_app] at m4
        have lB2 := nz3.2.1.1
        have cB3 : Chg [pd] H6 B3 := (cB6.tr nz3.2.1).trans c4' (fun i hi => .inr (f11 i hi))
        obtain ⟨B4, s4', sx4, hB4, hs4, m4, hsx4, hsl4, f4, c4''⟩ : ∃ B4 s4' sx4, B3 = B4 ∧ v4 = s4' ∧ Mine B4 1 s4' (u8s sx4) ∧ Byt sx4 ∧ sx4.length ≤ 2000 ∧ (∀ b ∈ blk s4', H6.length ≤ b) ∧ Chg [pd] H6 B4 :=
          ⟨B3, v4, _, rfl, rfl, m4, Byt.app hsx (Fm.recB_byt hB), by simp [Fm.recB_len]; omega, fun b hb => by
            rcases k4 b hb with h | h
            · exact f11 b h
            · omega, cB3⟩
        obtain ⟨sa4, sc4, ss4, rfl⟩ := m4.sl.len8
        simp
        rw [hs4, hB4]
      rotate_left
      focus
        obtain ⟨B4, s4', sx4, hB4, hs4, hlx, m4, hsx4, hsl4, f4, c4''⟩ : ∃ B4 s4' sx4, B1 = B4 ∧ .slice sa sx.length sc ss = s4' ∧ sx.length = sx4.length ∧ Mine B4 1 s4' (u8s sx4) ∧ Byt sx4 ∧ sx4.length ≤ 2000 ∧ (∀ b ∈ blk s4', H6.length ≤ b) ∧ Chg [pd] H6 B4 :=
          ⟨B1, _, sx, rfl, rfl, rfl, mB, hsx, by omega, f11, cB6⟩
        obtain ⟨sa4, sc4, ss4, rfl⟩ := m4.sl.len8
        simp
        rw [hs4, hB4, hlx]
      all_goals
        have wc1 : IntKind.i64.wrap cut = cut := wrap_i64 (by omega) (by omega)
        have wl : IntKind.i64.wrap ((sx4.length : Int) + 1) = (sx4.length : Int) + 1 := wrap_i64 (by omega) (by omega)
        have hn0 : ¬ (sx4.length : Int) + 1 = 0 := by omega
        have ht : cut.tmod ((sx4.length : Int) + 1) = cut % ((sx4.length : Int) + 1) := Int.tmod_eq_emod_of_nonneg hcut.1
        obtain ⟨mm, hmm⟩ : ∃ mm : Nat, cut % ((sx4.length : Int) + 1) = mm := ⟨(cut % ((sx4.length : Int) + 1)).toNat, by have := Int.emod_nonneg cut hn0; omega⟩
        have hml : mm ≤ sx4.length := by have := Int.emod_lt_of_pos cut (b := (sx4.length : Int) + 1) (by omega); omega
        obtain ⟨v5, ha5, m5, k5⟩ := m4.cut8 (m := mm) hml (high := some (.int .i64 mm)) rfl
        have P4 := Pair_keepF P6 c4'' fF
        have l64 := c4''.1
        simp [wc1, wl, hn0, ht, hmm, ha5]
        refine Hx.mapp (m5.append (hb.keep P4.chg) Nat.one_pos Nat.one_pos u8s_one (by simp [room]; omega)) ?_
        rintro ⟨v6, B6⟩ ⟨m6, c6', k6⟩
        simp only at m6 c6' k6
        rw [← u8s_app] at m6
        have f6 : ∀ b ∈ blk v6, H6.length ≤ b := fun b hb => by
          rcases k6 b hb with h | h
          · exact f4 b (k5 b h)
          · omega
        have c66 : Chg [pd] H6 B6 := c4''.trans c6' (fun i hi => .inr (f4 i (k5 i hi)))
        obtain ⟨H7, xs, xa, xc, xz, hxs, hH, hx7, hX, hxl, fx, P7⟩ : ∃ H7 xs xa xc xz, v6 = AV.slice xa xs.length xc xz ∧ B6 = H7 ∧ B8 H7 (.slice xa xs.length xc xz) xs ∧ Byt xs ∧ xs.length ≤ 3000 ∧ (∀ i ∈ blk (.slice xa xs.length xc xz), i ≠ H4.length ∧ i ≠ H4.length + 1) ∧
            Pair H0 H7 H4.length (.slice none 0 (some 0) 0) t0 (H4.length + 1) (.slice none 0 (some 0) 0) t0 := by
          obtain ⟨xa, xc, xz, e6⟩ := m6.sl.len8
          exact ⟨B6, sx4.take mm ++ bs, xa, xc, xz, e6, rfl, by rw [← e6]; exact m6.sl, Byt.app (hsx4.take mm) hB, by simp; omega, fun i hi => by rw [← e6] at hi; have := f6 i hi; omega, Pair_keepF P6 c66 fF⟩
        simp
        rw [hxs, hH]
  all_goals
    have ea := appT_t0 (xs := xs) (by omega)
    refine Hx.mapp (Tp.append_ok P7.left hx7 (fun h => (fx _ h).1 rfl) (by omega)) ?_
    rintro ⟨_, H8⟩ ⟨rfl, s8⟩
    simp only at s8
    rw [ea] at s8
    obtain ⟨v8, P8⟩ := P7.stepL s8
    obtain ⟨-, -, c8, -⟩ := s8
    have hx8 := hx7.chg c8 (fun i hi h => by simp at h; exact (fx i hi).1 h)
    simp [ea]
    refine Hx.mapp (Tp.rappend_ok P8.right hx8 (fun h => (fx _ h).2 rfl) (by omega)) ?_
    rintro ⟨_, H9⟩ ⟨rfl, s9⟩
    simp only at s9
    rw [ea] at s9
    obtain ⟨u9, P9⟩ := P8.stepR s9
    simp [ea]
    refine Hx.mapp (do_open P9 (.inl rfl) hX (by omega)) ?_
    rintro ⟨r1, H10⟩ ⟨er, cf2, es, x1, w1, t2, v2, rfl, sx1, sw1, f1, f2, P10, b2, fx1, fw1, hro⟩
    simp only at sx1 sw1 P10 hro f2
    obtain ⟨G2, e2⟩ : ∃ G2, G2 = H10 ++ [.cells (cf2.cs x1) .rw] := ⟨_, rfl⟩
    have c2' : Chg [] H10 G2 := by rw [e2]; exact .app _ _
    have g2 : G2[H10.length]? = some (.cells (cf2.cs x1) .rw) := by rw [e2]; simp
    obtain ⟨a1, d1, s1, rfl⟩ := SI.form sx1
    obtain ⟨a2, d2, s2, rfl⟩ := SE.form sw1
    simp only [Cf.cs] at e2 g2
    simp [Cf.cs]
    rw [← e2]
    refine Hx.mapp (hro G2 c2') ?_
    rintro ⟨r2, H13⟩ ⟨y1, z1, rfl, sy1, sz1, sx3, sw3, ⟨t', r', v', u', P', e', b'⟩, cg2⟩
    simp only at sy1 sz1 sx3 sw3 P' cg2
    have lq2 : H10.length ∉ (H4.length + 1) :: blk u9 := fun h => by
      have l1 := P10.right.lt
      rcases List.mem_cons.1 h with h | h
      · omega
      · have := P10.right.mine.lt _ h; omega
    have g3 := cg2.get g2 lq2
    obtain ⟨a3, d3, s3, rfl⟩ := SI.form sy1
    obtain ⟨a4, d4, s4, rfl⟩ := SE.form sz1
    obtain ⟨G4, e4'⟩ : ∃ G4, G4 = H13 ++ [.cells (cf2.cs (.slice a3 cf2.ins.length d3 s3)) .rw] := ⟨_, rfl⟩
    have c4x : Chg [] H13 G4 := by rw [e4']; exact .app _ _
    have g4x := c4x.get g3 (by simp)
    have g4' : G4[H13.length]? = some (.cells (cf2.cs (.slice a3 cf2.ins.length d3 s3)) .rw) := by rw [e4']; simp
    obtain ⟨q1, q2⟩ := opens_eq (k := k + 100) (sx3.keep c4x) (sy1.keep c4x) (sw3.keep c4x) (sz1.keep c4x) f1 (by omega) (by omega)
    simp only [Cf.cs] at e4' g4' q1
    simp [Cf.cs]
    rw [← e4']
    simp [rowOf_rw g4x, rowOf_rw g4']
    refine Hx.mapp q1 ?_
    rintro ⟨r5, H15⟩ ⟨er5, c5'⟩
    simp only at er5 c5'
    subst er5
    simp
    refine Hx.mapp (q2 H15 c5') ?_
    rintro ⟨r6, H16⟩ ⟨er6, c6'⟩
    simp only at er6 c6'
    subst er6
    simp
    refine Hx.mapp (alike_ok (k := k + 96) (P'.keep ((c4x.tr c5').tr c6')) e' b') ?_
    rintro ⟨r7, H17⟩ ⟨er7, c7'⟩
    simp only at er7
    subst er7
    simp
theorem journalOpens_main (H : AH) (ass : List (List AV)) (hl : ass.length = [41, 22, 50].length) (ha : ∀ (i : Nat) t al, [41, 22, 50][i]? = some t → ass[i]? = some al → AR ap 6 H t al) :
    Hx (callA ap 1100000 (.func 6 [] []) (List.zipWith (argA ap) [41, 22, 50] ass) 0 H) fun r => r.1 = .bool true := by
  obtain ⟨K, hK⟩ : ∃ K, K = 1100000 := ⟨_, rfl⟩
  rw [← hK]
  match ass, hl with
  | [a0, a1, a2], _ =>
    obtain ⟨b, bs, rfl, hb, hB⟩ := ar_bytes (ha 0 41 a0 rfl rfl) ty41 rfl ty5 rfl rfl
    obtain ⟨w, L, rfl, hw, hL⟩ := ar_u64s (ha 1 22 a1 rfl rfl) ty22 rfl ty70 rfl rfl
    obtain ⟨z, rfl, wz⟩ := ar_int (ha 2 50 a2 rfl rfl) ty50 rfl
    simp [Lit.wf, IntKind.has, IntKind.min, IntKind.max, IntKind.bits, IntKind.signed] at wz
    simp only [List.zipWith_cons_cons, List.zipWith_nil_right, argA_one ty22 rfl, argA_one ty41 rfl, argA_one ty50 rfl]
    exact journalOpens_ok hw hL hb hB (by omega) (by omega)
end
end Go.Proofs.Ytcmpldjoggeceaa.T.Jn
end
