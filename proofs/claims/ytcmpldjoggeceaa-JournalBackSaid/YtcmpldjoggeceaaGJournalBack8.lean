import Derived.Test.YtcmpldjoggeceaaGJ147
section
/-! JournalBack. -/
set_option linter.unusedVariables false
set_option linter.unusedSimpArgs false
set_option maxHeartbeats 4000000
set_option maxRecDepth 100000
namespace Go.Proofs.Ytcmpldjoggeceaa.T.Jn
open Go Go.Ab
open Fm (pos nrec walkI)
open Tp (At TS Step appT cutT armT wakeT Pair eqT byT)
/-- A tape with a journal. -/
def tj (c : Cf) (es : List E8) : TS := { t0 with bs := jr c es }
section
variable {H0 H A H' : AH} {p q k n : Nat} {v u : AV} {t r : TS} {c : Cf} {es : List E8}
theorem tj_start (hr : rightC c = true) : startT t0 c = (0, tj c []) := jr_start hr rfl rfl rfl (by simp [t0])
theorem tj_add (hr : rightC c = true) {e : E8} (he : rt e = true) (hl : es.length ≤ 100) : addT (tj c es) e = (0, tj c (es ++ [e])) := jr_add hr rfl rfl rfl (by simp [tj, t0]; omega) he
theorem tj_open (hr : rightC c = true) (hf : FitC c) (he : ∀ e ∈ es, rt e = true) : openT (tj c es) = ((0, c, es), tj c es) := jr_openT hr hf he rfl rfl
theorem tj_end (hr : rightC c = true) : pos (tj c es).bs (nrec (tj c es).bs) = (tj c es).bs.length := jr_end hr
theorem tj_len (hr : rightC c = true) : (tj c es).bs.length ≤ 316 + 57 * es.length := jr_len hr
theorem tj_byt (hr : rightC c = true) (hf : FitC c) (he : ∀ e ∈ es, rt e = true) : Byt (tj c es).bs := jr_byt hr hf he
theorem at_t0 : At false (H ++ [.cells (Tp.tcells (.slice none 0 (some 0) 0) ⟨[], 100000, false, false, 0, 0⟩) .rw]) H.length (.slice none 0 (some 0) 0) t0 :=
  ⟨by simp [Tp.cellsOf, t0], .nil _ _, by simp, by simp [t0], by simp [t0], by simp [t0]⟩
/-- A tape that was made behind A, and nothing else was turned. -/
structure Own (A H : AH) (p : Nat) (t : TS) : Prop where
  ex : ∃ v, At false H p v t ∧ ∀ b ∈ blk v, A.length ≤ b
  chg : Chg [] A H
  hp : A.length ≤ p
theorem Own.keep (o : Own A H p t) (c : Chg [] H H') : Own A H' p t := by
  obtain ⟨⟨v, h1, h2⟩, h3, h4⟩ := o
  exact ⟨⟨v, h1.keep c, h2⟩, h3.tr c, h4⟩
theorem Own.step (o : Own A H p t) {v : AV} (h : At false H p v t) (hv : ∀ b ∈ blk v, A.length ≤ b) {t' : TS} (s : Step false H p v t' H') : Own A H' p t' := by
  obtain ⟨v', h1, h2, h3⟩ := s
  have l := o.chg.1
  refine ⟨⟨v', h1, fun b hb => ?_⟩, o.chg.trans h2 (fun i hi => .inr ?_), o.hp⟩
  · rcases h3 b hb with h | h
    · exact hv b h
    · omega
  · rcases List.mem_cons.1 hi with rfl | h
    · exact o.hp
    · exact hv i h
theorem own_start (o : Own A H p t0) {x : AV} (hs : SI H x c.ins) (hr : rightC c = true) (hf : FitC c) (hk : 700 < k) :
    Hx (callA ap k (.func 13 [] []) [.ptr (some (p, 0)), .agg (c.cs x)] 0 H) fun r => r.1 = .int .i64 0 ∧ Own A r.2 p (tj c []) := by
  obtain ⟨v, h1, h2⟩ := o.ex
  have lc := right_len hr
  refine (start_ok h1 hs hf (by omega) (by omega)).mono ?_
  rintro ⟨r, H2⟩ ⟨e, s⟩
  simp only at e s
  rw [tj_start hr] at e s
  exact ⟨e, o.step h1 h2 s⟩
theorem own_add (o : Own A H p (tj c es)) {e : E8} (hr : rightC c = true) (he : rt e = true) (hl : es.length ≤ 100) (hk : 700 < k) :
    Hx (callA ap k (.func 14 [] []) [.ptr (some (p, 0)), .agg e.cs] 0 H) fun r => r.1 = .int .i64 0 ∧ Own A r.2 p (tj c (es ++ [e])) := by
  obtain ⟨v, h1, h2⟩ := o.ex
  refine (add_ok (e := e) h1 (by omega)).mono ?_
  rintro ⟨r, H2⟩ ⟨e, s⟩
  simp only at e s
  rw [tj_add hr he hl] at e s
  exact ⟨e, o.step h1 h2 s⟩
theorem own_open (o : Own A H p (tj c es)) (hr : rightC c = true) (hf : FitC c) (he : ∀ e ∈ es, rt e = true) (hl : es.length ≤ 100) (hk : 8000 < k) :
    Hx (callA ap k (.func 15 [] []) [.ptr (some (p, 0))] 0 H) fun r => ∃ x w, r.1 = .tuple [.agg (Cf.cs c x), w, .int .i64 0] ∧ SI r.2 x c.ins ∧ SE r.2 w es ∧ Chg [] H r.2 := by
  obtain ⟨v, h1, h2⟩ := o.ex
  have hjl := tj_len (c := c) (es := es) hr
  refine (open_ok h1 (tj_byt hr hf he) (by omega)).mono ?_
  rintro ⟨r, H6⟩ ⟨⟨x6, w6, v6, er, s6, q6, fx6, fw6, -⟩, c6⟩
  replace c6 := c6 (tj_end hr)
  rw [tj_open hr hf he] at er s6 q6
  exact ⟨x6, w6, er, s6, q6, c6⟩
end
end Go.Proofs.Ytcmpldjoggeceaa.T.Jn
end
section
/-! JournalBack. -/
set_option linter.unusedVariables false
set_option linter.unusedSimpArgs false
set_option maxHeartbeats 4000000
set_option maxRecDepth 100000
namespace Go.Proofs.Ytcmpldjoggeceaa.T.Jn
open Go Go.Ab
open Fm (pos nrec walkI)
open Tp (At TS Step appT cutT armT wakeT Pair eqT byT)
section
variable {H0 H A H' : AH} {p q k n : Nat} {v u : AV} {t r : TS} {c : Cf} {es : List E8}
theorem journalBack_ok {w : AV} {L : List Int} {most : Int} (hw : SL H0 1 w (u64s L)) (hL : ∀ x ∈ L, U64 x) (hm : 0 ≤ most ∧ most < 256) (hk : 20000 < k) : Hx (callA ap k (.func 3 [] []) [w, .int .u8 most] 0 H0) fun r => r.1 = .bool true := by
  obtain ⟨k, rfl⟩ : ∃ k', k = k' + 5001 := ⟨k - 5001, by omega⟩
  rw [hx_go fn3 rfl, b3]
  obtain ⟨wa, wn, wc, ws, rfl, -⟩ := hw.form
  have nw := fun lo H => @Tp.new_ok (k + 4999) lo H 100000
  rw [show min (max (100000 : Int) 0) 1048576 = 100000 by omega] at nw
  simp [f3]
  obtain ⟨G0, e0⟩ : ∃ G0, G0 = H0 ++ [.cells [.bool false] .rw] := ⟨_, rfl⟩
  have c0 : Chg [] H0 G0 := by rw [e0]; exact .app _ _
  have g0 : G0[H0.length]? = some (.cells [.bool false] .rw) := by rw [e0]; simp
  rw [← e0]
  refine Hx.mapp (known_ok (by omega)) ?_
  rintro ⟨r, H1⟩ ⟨er, c1⟩
  simp only at er c1
  subst er
  simp
  refine Hx.mapp (of_ok (hw.keep (c0.tr c1)) hL) ?_
  rintro ⟨r, H2⟩ ⟨er, dk, c2⟩
  simp only at er dk c2
  subst er
  have dk2l := dk.lt
  simp
  refine Hx.mapp (config_ok (k := k + 4980) dk (by omega)) ?_
  rintro ⟨r, H3⟩ ⟨cv, cf, er, mv, hr, hf, dk3, c3, fv⟩
  simp only at er mv dk3 c3 fv
  subst er
  obtain ⟨va, vc, vs, rfl⟩ := SI.form (l := cf.ins) mv.sl
  obtain ⟨G4, e4⟩ : ∃ G4, G4 = H3 ++ [.cells (cf.cs (.slice va cf.ins.length vc vs)) .rw] := ⟨_, rfl⟩
  have c4 : Chg [] H3 G4 := by rw [e4]; exact .app _ _
  have g4 : G4[H3.length]? = some (.cells (cf.cs (.slice va cf.ins.length vc vs)) .rw) := by rw [e4]; simp
  have s4 : SI G4 (.slice va cf.ins.length vc vs) cf.ins := mv.sl.keep c4
  have l01 := c1.1
  have l0 := lt_of_get g0
  have l12 := c2.1
  have l23 := c3.1
  have l34 : G4.length = H3.length + 1 := by rw [e4]; simp
  have g04 := c4.get (c3.get (c2.get (c1.get g0 (by simp)) (by simp)) (by simp; omega)) (by simp)
  have key := events_ok (k := k + 4900) (dk3.keep c4) (by omega) s4 (fun h => by have := fv _ h; omega) hr
  simp only [Cf.cs] at e4 key g4
  simp [Cf.cs]
  rw [← e4]
  simp [rowOf_rw g4]
  refine Hx.mapp key ?_
  rintro ⟨ev, H5⟩ ⟨es, me, hes, hel, dk5, c5, fe⟩
  simp only at me dk5 c5 fe
  obtain ⟨ea, ec, ez, rfl⟩ := SE.form (l := es) me.sl
  obtain ⟨A, eA⟩ : ∃ A, A = H5 ++ [.cells [.slice ea es.length ec ez] .rw] := ⟨_, rfl⟩
  have cA : Chg [] H5 A := by rw [eA]; exact .app _ _
  have g7 : A[H5.length]? = some (.cells [.slice ea es.length ec ez] .rw) := by rw [eA]; simp
  have l45 := c5.1
  have g6 := cA.get (c5.get g4 (by simp; omega)) (by simp)
  have g0A := cA.get (c5.get g04 (by simp; omega)) (by simp)
  have sA : SI A (.slice va cf.ins.length vc vs) cf.ins := (s4.chg c5 (fun i hi h => by simp at h; have := fv i hi; omega)).keep cA
  have eA' : SE A (.slice ea es.length ec ez) es := me.sl.keep cA
  simp
  rw [← eA]
  obtain ⟨B, eB⟩ : ∃ B, B = A ++ [.cells (Tp.tcells (.slice none 0 (some 0) 0) ⟨[], 100000, false, false, 0, 0⟩) .rw] := ⟨_, rfl⟩
  have cB : Chg [] A B := by rw [eB]; exact .app _ _
  have oB : Own A B A.length t0 := by rw [eB]; exact ⟨⟨_, at_t0, by simp⟩, .app _ _, Nat.le_refl _⟩
  simp [nw]
  rw [← eB]
  have key := own_start (k := k + 5000) oB (sA.keep cB) hr hf (by omega)
  simp only [Cf.cs] at key
  simp [eqV, rowOf_rw (cB.get g6 (by simp))]
  refine Hx.mapp key ?_
  rintro ⟨r, B1⟩ ⟨er, o1⟩
  simp only at er o1
  subst er
  simp
  refine hx_up (fun i st => ∃ B', st = ⟨sp 107 [(1, .int .u8 most), (4, .ptr (some (H0.length, 0))), (6, .ptr (some (H3.length, 0))), (7, .ptr (some (H5.length, 0))), (8, .ptr (some (A.length, 0))), (9, .int .i64 i)], B', []⟩ ∧ Own A B' A.length (tj cf (es.take i))) es.length ?_ ?_ (by omega)
    ⟨B1, by simp [maskS], by simpa using o1⟩
  · rintro i st hi ⟨B', rfl, o'⟩
    have hi' : (i : Int) < es.length := by omega
    have w1 : IntKind.i64.wrap ((i : Int) + 1) = (i : Int) + 1 := wrap_i64 (by omega) (by omega)
    obtain ⟨b, o, c', rr, e', g1, g2, g3, -⟩ := SE.get (eA'.keep o'.chg) (gete hi)
    cases e'
    have key := own_add (k := k + 5000) o' (e := es[i]) hr (hes _ (List.getElem_mem hi)) (by simp; omega) (by omega)
    simp only [E8.cs] at g3 key
    simp [hi, hi', rowOf_rw (o'.chg.get g7 (by simp)), g1, g2, g3]
    refine Hx.mapp key ?_
    rintro ⟨r, B2⟩ ⟨er, o2⟩
    simp only at er o2
    subst er
    simp [w1, maskS]
    rw [← List.take_succ_eq_append_getElem hi] at o2
    exact o2
  · rintro st ⟨B', rfl, o'⟩
    rw [List.take_length] at o'
    simp [rowOf_rw (o'.chg.get g7 (by simp))]
    refine Hx.mapp (own_open o' hr hf hes (by omega) (by omega)) ?_
    rintro ⟨r, B2⟩ ⟨x2, w2, er, sx, sw, c6⟩
    simp only at er sx sw c6
    subst er
    obtain ⟨xa, xc, xs, rfl⟩ := SI.form sx
    obtain ⟨ya, yc, ys, rfl⟩ := SE.form sw
    obtain ⟨B3, e3⟩ : ∃ B3, B3 = B2 ++ [.cells (cf.cs (.slice xa cf.ins.length xc xs)) .rw] := ⟨_, rfl⟩
    have c7 : Chg [] B2 B3 := by rw [e3]; exact .app _ _
    have g10 : B3[B2.length]? = some (.cells (cf.cs (.slice xa cf.ins.length xc xs)) .rw) := by rw [e3]; simp
    have l3 : B3.length = B2.length + 1 := by rw [e3]; simp
    simp only [Cf.cs] at e3 g10
    simp [Cf.cs]
    rw [← e3]
    have o3 := o'.keep (c6.tr c7)
    obtain ⟨v3, hv3, -⟩ := o3.ex
    refine Hx.mapp (Tp.read_ok hv3) ?_
    rintro ⟨r, B4⟩ ⟨c8, s, er, ms, fs⟩
    simp only at er c8 ms fs
    subst er
    have hd : (tj cf es).down = false := rfl
    simp only [hd, Bool.false_eq_true, if_false] at ms
    obtain ⟨sa, sc, ss, rfl⟩ := ms.sl.len8
    have o4 := o3.keep c8
    have hmn : (amm1 false .i64 (IntKind.i64.wrap most) [.int .i64 es.length]) = some (.int .i64 ((min most.toNat es.length : Nat) : Int)) := by
      rw [wrap_i64 (by omega) (by omega)]
      simp [amm1]
      split <;> omega
    obtain ⟨nn, hnn⟩ : ∃ nn, nn = min most.toNat es.length := ⟨_, rfl⟩
    rw [← hnn] at hmn
    simp [hd, rowOf_rw (o4.chg.get g7 (by simp)), amm, hmn]
    obtain ⟨G5, e5⟩ : ∃ G5 : AH, G5 = B4 ++ [.cells [.int .i64 nn] .rw, .cells [.int .i64 0] .rw] := ⟨_, rfl⟩
    have c9 : Chg [] B4 G5 := by rw [e5]; exact .app _ _
    have g15 : G5[B4.length]? = some (.cells [.int .i64 nn] .rw) := by rw [e5]; simp
    have g16 : G5[B4.length + 1]? = some (.cells [.int .i64 0] .rw) := by rw [e5]; simp
    have l5 : G5.length = B4.length + 2 := by rw [e5]; simp
    rw [← e5]
    have hjl := tj_len (c := cf) (es := es) hr
    refine Hx.mapp (all_ok (ms.sl.keep c9) (by omega)) ?_
    rintro ⟨r, B6⟩ ⟨c10, cc, er, hcc, hwI⟩
    simp only at er c10 hcc hwI
    subst er
    have l56 := c10.1
    have o6 := o4.keep (c9.tr c10)
    have l14 := o4.chg.1
    have l7A := lt_of_get g7
    have l6A := lt_of_get g6
    have h15 := c10.get g15 (by simp)
    have h16 := c10.get g16 (by simp)
    have g10' := (c8.tr (c9.tr c10)).get g10 (by simp)
    have l10 := lt_of_get g10
    have l34' := c8.1
    have hB := tj_byt hr hf hes
    have hWI : ∀ Ha, Chg [B4.length + 1] B6 Ha → walkI cc G5.length (tj cf es).bs Ha := fun Ha c => Fm.walkI_chg hwI c (by simp; omega) hcc
    simp
    refine hx_rangeF (k := k + 4996) (F := [B4.length + 1]) (evA es) (walkI cc G5.length (tj cf es).bs) (fun j H' => Chg [B4.length + 1] B6 H' ∧ H'[B4.length + 1]? = some (.cells [.int .i64 j] .rw) ∧ j ≤ nn)
      (fun x H' => x = .exit 2 ∧ Chg [B4.length + 1] B6 H' ∧ H'[B4.length + 1]? = some (.cells [.int .i64 nn] .rw)) (n := es.length) rfl (by simp; omega)
      (all1_goes (c := cf) hB (by omega) (jr_open hr hf hes) (by simp) (by omega))
      (fun P j Ha Hb hp ⟨a, b, d⟩ q => ⟨a.trans q (fun i hi => .inr (by have := hp i hi; simp at this; omega)), q.get b (fun h => by have := hp _ h; simp at this; omega), d⟩)
      (fun P x Ha Hb hp ⟨e, a, b⟩ q => ⟨e, a.trans q (fun i hi => .inr (by have := hp i hi; simp at this; omega)), q.get b (fun h => by have := hp _ h; simp at this; omega)⟩)
      (fun j Ha Hb ⟨a, b, d⟩ q => ⟨chg_ls a (by simp) q, get_ls b q, d⟩) (fun x Ha Hb ⟨e, a, b⟩ q => ⟨e, chg_ls a (by simp) q, get_ls b q⟩) (fun j Ha h => hWI Ha h.1) (fun j Ha Hb a h _ => h) (fun j Ha a ⟨e, _, ea⟩ => by rw [ea]; rfl) ⟨.refl, h16, Nat.zero_le _⟩ ?_ ?_ ?_
    · rintro j hj Ha a ⟨d0, d1, d2⟩ ⟨e, he, rfl⟩ hl1 hd' hlen
      have hlt := loop_lt hl1
      simp only [tag_eq] at hlt hl1 hd' hlen
      unfold as3_0
      simp [setL, E8.cs]
      refine ⟨.app _ _, fun Hb hls hlp hdd b0 b1 b2 ms => ?_⟩
      have u18 : Hb[Ha.length]? = some (.cells e.cs .rw) := hls.get (by simp [E8.cs])
      have k15 := b0.get h15 (by simp)
      have k7 := b0.get (o6.chg.get g7 (by simp)) (by simp; omega)
      unfold bd3_0
      by_cases hjn : j = nn
      · subst hjn
        simp [rowOf_rw b1, rowOf_rw k15, -stepOut_exit]
        rw [stepOut_exit]
        exact ⟨rfl, rfl, ⟨rfl, b0, b1⟩, .refl⟩
      · have hjn' : ¬ (j : Int) = nn := by omega
        simp [rowOf_rw b1, rowOf_rw k15, hjn', hjn, -stepOut_normal]
        refine hx_drawn dc3_21 fun Hc cc2 _ _ => ?_
        have m16 := cc2.get b1 (by simp)
        have m18 := cc2.get u18 (by simp)
        have m7 := cc2.get k7 (by simp)
        have w1 : IntKind.i64.wrap ((j : Int) + 1) = (j : Int) + 1 := wrap_i64 (by omega) (by omega)
        have hj' : (j : Int) < es.length := by omega
        obtain ⟨b, o, c', rr, e', q1, q2, q3, -⟩ := SE.get ((eA'.keep o6.chg).chg (b0.tr cc2) (fun i hi h => by
          simp at h
          have := me.sl.lt i hi
          omega)) he
        cases e'
        have eqe := @eqE8 e e
        simp only [E8.cs] at q3 m18
        simp [d3_21, rowOf_rw m16, rowOf_rw m18, rowOf_rw m7, rowRw_rw m16, hj, hj', q1, q2, q3, eqV, eqe, w1, -stepOut_normal]
        rw [stepOut_normal]
        have cs := Chg.set Hc (B4.length + 1) (.cells [.int .i64 ((j : Int) + 1)] .rw)
        have cs2 : Chg [B4.length + 1] Hb (Hc.set (B4.length + 1) (.cells [.int .i64 ((j : Int) + 1)] .rw)) := cc2.nil.tr' cs
        exact ⟨cs2.2 _ (loop_lt hlp) (by simp; omega), cs2.2 _ (lt_of_get hdd) (by simp; omega), ⟨b0.tr' cs2, by simp [lt_of_get m16], by omega⟩, cs2⟩
    focus
      rintro Hd ⟨d0, d1, d2⟩ hd'
      have enn : es.length = nn := by omega
      rw [enn] at d1
    rotate_left
    focus
      rintro x Hd hx ⟨rfl, d0, d1⟩ hd'
    all_goals
      simp only [tag_eq] at hd'
      have dg : ∀ {i : Nat} {X : AB}, B6[i]? = some X → i ≠ B4.length + 1 → Hd[i]? = some X := fun h hn => d0.get h (by simp; omega)
      have x6 : SI Hd (.slice xa cf.ins.length xc xs) cf.ins := (sx.keep (c7.tr (c8.tr (c9.tr c10)))).chg d0 (fun i hi h => by simp at h; have := sx.lt i hi; omega)
      have x7 : SI Hd (.slice va cf.ins.length vc vs) cf.ins := (sA.keep o6.chg).chg d0 (fun i hi h => by simp at h; have := sA.lt i hi; omega)
      have y6 : SE Hd (.slice ya es.length yc ys) es := (sw.keep (c7.tr (c8.tr (c9.tr c10)))).chg d0 (fun i hi h => by simp at h; have := sw.lt i hi; omega)
      have y7 : SE Hd (.slice ea es.length ec ez) es := (eA'.keep o6.chg).chg d0 (fun i hi h => by simp at h; have := me.sl.lt i hi; omega)
      have r10 := dg g10' (by omega)
      have r6 := dg (o6.chg.get g6 (by simp)) (by omega)
      have r7 := dg (o6.chg.get g7 (by simp)) (by omega)
      have r0 := dg (o6.chg.get g0A (by simp)) (by omega)
      have r15 := dg h15 (by omega)
      have hlr := right_len hr
      obtain ⟨q1, q2⟩ := opens_eq (k := k + 5000) x6 x7 y6 y7 (by omega) (by omega) (by omega)
      simp only [Cf.cs] at r6 q1
      simp [rowOf_rw r10, rowOf_rw r6]
      refine Hx.mapp q1 ?_
      rintro ⟨r, D1⟩ ⟨er, cD⟩
      simp only at er cD
      subst er
      simp [rowOf_rw (cD.get r7 (by simp))]
      refine Hx.mapp (q2 D1 cD) ?_
      rintro ⟨r, D2⟩ ⟨er, cD2⟩
      simp only at er cD2
      subst er
      have cDD := cD.tr cD2
      have u0 := cDD.get r0 (by simp)
      have hu : ∀ l, rowOf (D2.set H0.length (.cells l .rw)) H0.length = some l := fun l => rowOf_self (lt_of_get u0)
      have dfd : ∀ X, (D2.set H0.length X)[B6.length]? = some (.deferred false) := fun X => by rw [List.getElem?_set_ne (by omega)]; exact cDD.get hd' (by simp)
      have hu' : ∀ l Y, rowOf ((D2.set H0.length (.cells l .rw)).set B6.length Y) H0.length = some l := fun l Y => set_row (hu l) (by omega) Y
      simp [rowOf_rw (cDD.get d1 (by simp)), rowOf_rw (cDD.get r15 (by simp)), rowRw_rw u0, dfd, hu']
theorem journalBack_main (H : AH) (ass : List (List AV)) (hl : ass.length = [22, 5].length) (ha : ∀ (i : Nat) t al, [22, 5][i]? = some t → ass[i]? = some al → AR ap 6 H t al) :
    Hx (callA ap 30000 (.func 3 [] []) (List.zipWith (argA ap) [22, 5] ass) 0 H) fun r => r.1 = .bool true := by
  obtain ⟨K, hK⟩ : ∃ K, K = 30000 := ⟨_, rfl⟩
  rw [← hK]
  match ass, hl with
  | [a0, a1], _ =>
    obtain ⟨w, L, rfl, hw, hL⟩ := ar_u64s (ha 0 22 a0 rfl rfl) ty22 rfl ty70 rfl rfl
    obtain ⟨z, rfl, wz⟩ := ar_int (ha 1 5 a1 rfl rfl) ty5 rfl
    simp only [List.zipWith_cons_cons, List.zipWith_nil_right, argA_one ty22 rfl, argA_one ty5 rfl]
    exact journalBack_ok hw hL (wf_u8 wz) (by omega)
end
end Go.Proofs.Ytcmpldjoggeceaa.T.Jn
end
