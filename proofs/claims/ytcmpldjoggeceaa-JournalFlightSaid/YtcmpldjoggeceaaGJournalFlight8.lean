import Derived.Test.YtcmpldjoggeceaaGJ147
section
/-! JournalBack. -/
set_option linter.unusedVariables false
set_option linter.unusedSimpArgs false
set_option maxHeartbeats 4000000
set_option maxRecDepth 100000
namespace Go.Proofs.Ytcmpldjoggeceaa.T.Jn
open Go Go.Ab
open Fm (pos nrec walkI)
open Tp (At TS Step appT cutT armT wakeT Pair eqT byT)
/-- A tape with a journal. -/
def tj (c : Cf) (es : List E8) : TS := { t0 with bs := jr c es }
section
variable {H0 H A H' : AH} {p q k n : Nat} {v u : AV} {t r : TS} {c : Cf} {es : List E8}
theorem tj_start (hr : rightC c = true) : startT t0 c = (0, tj c []) := jr_start hr rfl rfl rfl (by simp [t0])
theorem tj_add (hr : rightC c = true) {e : E8} (he : rt e = true) (hl : es.length ≤ 100) : addT (tj c es) e = (0, tj c (es ++ [e])) := jr_add hr rfl rfl rfl (by simp [tj, t0]; omega) he
theorem tj_open (hr : rightC c = true) (hf : FitC c) (he : ∀ e ∈ es, rt e = true) : openT (tj c es) = ((0, c, es), tj c es) := jr_openT hr hf he rfl rfl
theorem tj_end (hr : rightC c = true) : pos (tj c es).bs (nrec (tj c es).bs) = (tj c es).bs.length := jr_end hr
theorem tj_len (hr : rightC c = true) : (tj c es).bs.length ≤ 316 + 57 * es.length := jr_len hr
theorem tj_byt (hr : rightC c = true) (hf : FitC c) (he : ∀ e ∈ es, rt e = true) : Byt (tj c es).bs := jr_byt hr hf he
theorem at_t0 : At false (H ++ [.cells (Tp.tcells (.slice none 0 (some 0) 0) ⟨[], 100000, false, false, 0, 0⟩) .rw]) H.length (.slice none 0 (some 0) 0) t0 :=
  ⟨by simp [Tp.cellsOf, t0], .nil _ _, by simp, by simp [t0], by simp [t0], by simp [t0]⟩
/-- A tape that was made behind A, and nothing else was turned. -/
structure Own (A H : AH) (p : Nat) (t : TS) : Prop where
  ex : ∃ v, At false H p v t ∧ ∀ b ∈ blk v, A.length ≤ b
  chg : Chg [] A H
  hp : A.length ≤ p
theorem Own.keep (o : Own A H p t) (c : Chg [] H H') : Own A H' p t := by
  obtain ⟨⟨v, h1, h2⟩, h3, h4⟩ := o
  exact ⟨⟨v, h1.keep c, h2⟩, h3.tr c, h4⟩
theorem Own.step (o : Own A H p t) {v : AV} (h : At false H p v t) (hv : ∀ b ∈ blk v, A.length ≤ b) {t' : TS} (s : Step false H p v t' H') : Own A H' p t' := by
  obtain ⟨v', h1, h2, h3⟩ := s
  have l := o.chg.1
  refine ⟨⟨v', h1, fun b hb => ?_⟩, o.chg.trans h2 (fun i hi => .inr ?_), o.hp⟩
  · rcases h3 b hb with h | h
    · exact hv b h
    · omega
  · rcases List.mem_cons.1 hi with rfl | h
    · exact o.hp
    · exact hv i h
theorem own_start (o : Own A H p t0) {x : AV} (hs : SI H x c.ins) (hr : rightC c = true) (hf : FitC c) (hk : 700 < k) :
    Hx (callA ap k (.func 13 [] []) [.ptr (some (p, 0)), .agg (c.cs x)] 0 H) fun r => r.1 = .int .i64 0 ∧ Own A r.2 p (tj c []) := by
  obtain ⟨v, h1, h2⟩ := o.ex
  have lc := right_len hr
  refine (start_ok h1 hs hf (by omega) (by omega)).mono ?_
  rintro ⟨r, H2⟩ ⟨e, s⟩
  simp only at e s
  rw [tj_start hr] at e s
  exact ⟨e, o.step h1 h2 s⟩
theorem own_add (o : Own A H p (tj c es)) {e : E8} (hr : rightC c = true) (he : rt e = true) (hl : es.length ≤ 100) (hk : 700 < k) :
    Hx (callA ap k (.func 14 [] []) [.ptr (some (p, 0)), .agg e.cs] 0 H) fun r => r.1 = .int .i64 0 ∧ Own A r.2 p (tj c (es ++ [e])) := by
  obtain ⟨v, h1, h2⟩ := o.ex
  refine (add_ok (e := e) h1 (by omega)).mono ?_
  rintro ⟨r, H2⟩ ⟨e, s⟩
  simp only at e s
  rw [tj_add hr he hl] at e s
  exact ⟨e, o.step h1 h2 s⟩
theorem own_open (o : Own A H p (tj c es)) (hr : rightC c = true) (hf : FitC c) (he : ∀ e ∈ es, rt e = true) (hl : es.length ≤ 100) (hk : 8000 < k) :
    Hx (callA ap k (.func 15 [] []) [.ptr (some (p, 0))] 0 H) fun r => ∃ x w, r.1 = .tuple [.agg (Cf.cs c x), w, .int .i64 0] ∧ SI r.2 x c.ins ∧ SE r.2 w es ∧ Chg [] H r.2 := by
  obtain ⟨v, h1, h2⟩ := o.ex
  have hjl := tj_len (c := c) (es := es) hr
  refine (open_ok h1 (tj_byt hr hf he) (by omega)).mono ?_
  rintro ⟨r, H6⟩ ⟨⟨x6, w6, v6, er, s6, q6, fx6, fw6, -⟩, c6⟩
  replace c6 := c6 (tj_end hr)
  rw [tj_open hr hf he] at er s6 q6
  exact ⟨x6, w6, er, s6, q6, c6⟩
end
end Go.Proofs.Ytcmpldjoggeceaa.T.Jn
end
section
/-! JournalBack. -/
set_option linter.unusedVariables false
set_option linter.unusedSimpArgs false
set_option maxHeartbeats 4000000
set_option maxRecDepth 100000
namespace Go.Proofs.Ytcmpldjoggeceaa.T.Jn
open Go Go.Ab
open Fm (pos nrec walkI)
open Tp (At TS Step appT cutT armT wakeT Pair eqT byT)
section
variable {H0 H A H' : AH} {p q k n : Nat} {v u : AV} {t r : TS} {c : Cf} {es : List E8}
theorem journalBack_ok {w : AV} {L : List Int} {most : Int} (hw : SL H0 1 w (u64s L)) (hL : ∀ x ∈ L, U64 x) (hm : 0 ≤ most ∧ most < 256) (hk : 20000 < k) : Hx (callA ap k (.func 3 [] []) [w, .int .u8 most] 0 H0) fun r => r.1 = .bool true := by
  obtain ⟨k, rfl⟩ : ∃ k', k = k' + 5001 := ⟨k - 5001, by omega⟩
  rw [hx_go fn3 rfl, b3]
  obtain ⟨wa, wn, wc, ws, rfl, -⟩ := hw.form
  have nw := fun lo H => @Tp.new_ok (k + 4999) lo H 100000
  rw [show min (max (100000 : Int) 0) 1048576 = 100000 by omega] at nw
  simp [f3]
  obtain ⟨G0, e0⟩ : ∃ G0, G0 = H0 ++ [.cells [.bool false] .rw] := ⟨_, rfl⟩
  have c0 : Chg [] H0 G0 := by rw [e0]; exact .app _ _
  have g0 : G0[H0.length]? = some (.cells [.bool false] .rw) := by rw [e0]; simp
  rw [← e0]
  refine Hx.mapp (known_ok (by omega)) ?_
  rintro ⟨r, H1⟩ ⟨er, c1⟩
  simp only at er c1
  subst er
  simp
  refine Hx.mapp (of_ok (hw.keep (c0.tr c1)) hL) ?_
  rintro ⟨r, H2⟩ ⟨er, dk, c2⟩
  simp only at er dk c2
  subst er
  have dk2l := dk.lt
  simp
  refine Hx.mapp (config_ok (k := k + 4980) dk (by omega)) ?_
  rintro ⟨r, H3⟩ ⟨cv, cf, er, mv, hr, hf, dk3, c3, fv⟩
  simp only at er mv dk3 c3 fv
  subst er
  obtain ⟨va, vc, vs, rfl⟩ := SI.form (l := cf.ins) mv.sl
  obtain ⟨G4, e4⟩ : ∃ G4, G4 = H3 ++ [.cells (cf.cs (.slice va cf.ins.length vc vs)) .rw] := ⟨_, rfl⟩
  have c4 : Chg [] H3 G4 := by rw [e4]; exact .app _ _
  have g4 : G4[H3.length]? = some (.cells (cf.cs (.slice va cf.ins.length vc vs)) .rw) := by rw [e4]; simp
  have s4 : SI G4 (.slice va cf.ins.length vc vs) cf.ins := mv.sl.keep c4
  have l01 := c1.1
  have l0 := lt_of_get g0
  have l12 := c2.1
  have l23 := c3.1
  have l34 : G4.length = H3.length + 1 := by rw [e4]; simp
  have g04 := c4.get (c3.get (c2.get (c1.get g0 (by simp)) (by simp)) (by simp; omega)) (by simp)
  have key := events_ok (k := k + 4900) (dk3.keep c4) (by omega) s4 (fun h => by have := fv _ h; omega) hr
  simp only [Cf.cs] at e4 key g4
  simp [Cf.cs]
  rw [← e4]
  simp [rowOf_rw g4]
  refine Hx.mapp key ?_
  rintro ⟨ev, H5⟩ ⟨es, me, hes, hel, dk5, c5, fe⟩
  simp only at me dk5 c5 fe
  obtain ⟨ea, ec, ez, rfl⟩ := SE.form (l := es) me.sl
  obtain ⟨A, eA⟩ : ∃ A, A = H5 ++ [.cells [.slice ea es.length ec ez] .rw] := ⟨_, rfl⟩
  have cA : Chg [] H5 A := by rw [eA]; exact .app _ _
  have g7 : A[H5.length]? = some (.cells [.slice ea es.length ec ez] .rw) := by rw [eA]; simp
  have l45 := c5.1
  have g6 := cA.get (c5.get g4 (by simp; omega)) (by simp)
  have g0A := cA.get (c5.get g04 (by simp; omega)) (by simp)
  have sA : SI A (.slice va cf.ins.length vc vs) cf.ins := (s4.chg c5 (fun i hi h => by simp at h; have := fv i hi; omega)).keep cA
  have eA' : SE A (.slice ea es.length ec ez) es := me.sl.keep cA
  simp
  rw [← eA]
  obtain ⟨B, eB⟩ : ∃ B, B = A ++ [.cells (Tp.tcells (.slice none 0 (some 0) 0) ⟨[], 100000, false, false, 0, 0⟩) .rw] := ⟨_, rfl⟩
  have cB : Chg [] A B := by rw [eB]; exact .app _ _
  have oB : Own A B A.length t0 := by rw [eB]; exact ⟨⟨_, at_t0, by simp⟩, .app _ _, Nat.le_refl _⟩
  simp [nw]
  rw [← eB]
  have key := own_start (k := k + 5000) oB (sA.keep cB) hr hf (by omega)
  simp only [Cf.cs] at key
  simp [eqV, rowOf_rw (cB.get g6 (by simp))]
  refine Hx.mapp key ?_
  rintro ⟨r, B1⟩ ⟨er, o1⟩
  simp only at er o1
  subst er
  simp
  refine hx_up (fun i st => ∃ B', st = ⟨sp 107 [(1, .int .u8 most), (4, .ptr (some (H0.length, 0))), (6, .ptr (some (H3.length, 0))), (7, .ptr (some (H5.length, 0))), (8, .ptr (some (A.length, 0))), (9, .int .i64 i)], B', []⟩ ∧ Own A B' A.length (tj cf (es.take i))) es.length ?_ ?_ (by omega)
    ⟨B1, by simp [maskS], by simpa using o1⟩
  · rintro i st hi ⟨B', rfl, o'⟩
    have hi' : (i : Int) < es.length := by omega
    have w1 : IntKind.i64.wrap ((i : Int) + 1) = (i : Int) + 1 := wrap_i64 (by omega) (by omega)
    obtain ⟨b, o, c', rr, e', g1, g2, g3, -⟩ := SE.get (eA'.keep o'.chg) (gete hi)
    cases e'
    have key := own_add (k := k + 5000) o' (e := es[i]) hr (hes _ (List.getElem_mem hi)) (by simp; omega) (by omega)
    simp only [E8.cs] at g3 key
    simp [hi, hi', rowOf_rw (o'.chg.get g7 (by simp)), g1, g2, g3]
    refine Hx.mapp key ?_
    rintro ⟨r, B2⟩ ⟨er, o2⟩
    simp only at er o2
    subst er
    simp [w1, maskS]
    rw [← List.take_succ_eq_append_getElem hi] at o2
    exact o2
  · rintro st ⟨B', rfl, o'⟩
    rw [List.take_length] at o'
    simp [rowOf_rw (o'.chg.get g7 (by simp))]
    refine Hx.mapp (own_open o' hr hf hes (by omega) (by omega)) ?_
    rintro ⟨r, B2⟩ ⟨x2, w2, er, sx, sw, c6⟩
    simp only at er sx sw c6
    subst er
    obtain ⟨xa, xc, xs, rfl⟩ := SI.form sx
    obtain ⟨ya, yc, ys, rfl⟩ := SE.form sw
    obtain ⟨B3, e3⟩ : ∃ B3, B3 = B2 ++ [.cells (cf.cs (.slice xa cf.ins.length xc xs)) .rw] := ⟨_, rfl⟩
    have c7 : Chg [] B2 B3 := by rw [e3]; exact .app _ _
    have g10 : B3[B2.length]? = some (.cells (cf.cs (.slice xa cf.ins.length xc xs)) .rw) := by rw [e3]; simp
    have l3 : B3.length = B2.length + 1 := by rw [e3]; simp
    simp only [Cf.cs] at e3 g10
    simp [Cf.cs]
    rw [← e3]
    have o3 := o'.keep (c6.tr c7)
    obtain ⟨v3, hv3, -⟩ := o3.ex
    refine Hx.mapp (Tp.read_ok hv3) ?_
    rintro ⟨r, B4⟩ ⟨c8, s, er, ms, fs⟩
    simp only at er c8 ms fs
    subst er
    have hd : (tj cf es).down = false := rfl
    simp only [hd, Bool.false_eq_true, if_false] at ms
    obtain ⟨sa, sc, ss, rfl⟩ := ms.sl.len8
    have o4 := o3.keep c8
    have hmn : (amm1 false .i64 (IntKind.i64.wrap most) [.int .i64 es.length]) = some (.int .i64 ((min most.toNat es.length : Nat) : Int)) := by
      rw [wrap_i64 (by omega) (by omega)]
      simp [amm1]
      split <;> omega
    obtain ⟨nn, hnn⟩ : ∃ nn, nn = min most.toNat es.length := ⟨_, rfl⟩
    rw [← hnn] at hmn
    simp [hd, rowOf_rw (o4.chg.get g7 (by simp)), amm, hmn]
    obtain ⟨G5, e5⟩ : ∃ G5 : AH, G5 = B4 ++ [.cells [.int .i64 nn] .rw, .cells [.int .i64 0] .rw] := ⟨_, rfl⟩
    have c9 : Chg [] B4 G5 := by rw [e5]; exact .app _ _
    have g15 : G5[B4.length]? = some (.cells [.int .i64 nn] .rw) := by rw [e5]; simp
    have g16 : G5[B4.length + 1]? = some (.cells [.int .i64 0] .rw) := by rw [e5]; simp
    have l5 : G5.length = B4.length + 2 := by rw [e5]; simp
    rw [← e5]
    have hjl := tj_len (c := cf) (es := es) hr
    refine Hx.mapp (all_ok (ms.sl.keep c9) (by omega)) ?_
    rintro ⟨r, B6⟩ ⟨c10, cc, er, hcc, hwI⟩
    simp only at er c10 hcc hwI
    subst er
    have l56 := c10.1
    have o6 := o4.keep (c9.tr c10)
    have l14 := o4.chg.1
    have l7A := lt_of_get g7
    have l6A := lt_of_get g6
    have h15 := c10.get g15 (by simp)
    have h16 := c10.get g16 (by simp)
    have g10' := (c8.tr (c9.tr c10)).get g10 (by simp)
    have l10 := lt_of_get g10
    have l34' := c8.1
    have hB := tj_byt hr hf hes
    have hWI : ∀ Ha, Chg [B4.length + 1] B6 Ha → walkI cc G5.length (tj cf es).bs Ha := fun Ha c => Fm.walkI_chg hwI c (by simp; omega) hcc
    simp
    refine hx_rangeF (k := k + 4996) (F := [B4.length + 1]) (evA es) (walkI cc G5.length (tj cf es).bs) (fun j H' => Chg [B4.length + 1] B6 H' ∧ H'[B4.length + 1]? = some (.cells [.int .i64 j] .rw) ∧ j ≤ nn)
      (fun x H' => x = .exit 2 ∧ Chg [B4.length + 1] B6 H' ∧ H'[B4.length + 1]? = some (.cells [.int .i64 nn] .rw)) (n := es.length) rfl (by simp; omega)
      (all1_goes (c := cf) hB (by omega) (jr_open hr hf hes) (by simp) (by omega))
      (fun P j Ha Hb hp ⟨a, b, d⟩ q => ⟨a.trans q (fun i hi => .inr (by have := hp i hi; simp at this; omega)), q.get b (fun h => by have := hp _ h; simp at this; omega), d⟩)
      (fun P x Ha Hb hp ⟨e, a, b⟩ q => ⟨e, a.trans q (fun i hi => .inr (by have := hp i hi; simp at this; omega)), q.get b (fun h => by have := hp _ h; simp at this; omega)⟩)
      (fun j Ha Hb ⟨a, b, d⟩ q => ⟨chg_ls a (by simp) q, get_ls b q, d⟩) (fun x Ha Hb ⟨e, a, b⟩ q => ⟨e, chg_ls a (by simp) q, get_ls b q⟩) (fun j Ha h => hWI Ha h.1) (fun j Ha Hb a h _ => h) (fun j Ha a ⟨e, _, ea⟩ => by rw [ea]; rfl) ⟨.refl, h16, Nat.zero_le _⟩ ?_ ?_ ?_
    · rintro j hj Ha a ⟨d0, d1, d2⟩ ⟨e, he, rfl⟩ hl1 hd' hlen
      have hlt := loop_lt hl1
      simp only [tag_eq] at hlt hl1 hd' hlen
      unfold as3_0
      simp [setL, E8.cs]
      refine ⟨.app _ _, fun Hb hls hlp hdd b0 b1 b2 ms => ?_⟩
      have u18 : Hb[Ha.length]? = some (.cells e.cs .rw) := hls.get (by simp [E8.cs])
      have k15 := b0.get h15 (by simp)
      have k7 := b0.get (o6.chg.get g7 (by simp)) (by simp; omega)
      unfold bd3_0
      by_cases hjn : j = nn
      · subst hjn
        simp [rowOf_rw b1, rowOf_rw k15, -stepOut_exit]
        rw [stepOut_exit]
        exact ⟨rfl, rfl, ⟨rfl, b0, b1⟩, .refl⟩
      · have hjn' : ¬ (j : Int) = nn := by omega
        simp [rowOf_rw b1, rowOf_rw k15, hjn', hjn, -stepOut_normal]
        refine hx_drawn dc3_21 fun Hc cc2 _ _ => ?_
        have m16 := cc2.get b1 (by simp)
        have m18 := cc2.get u18 (by simp)
        have m7 := cc2.get k7 (by simp)
        have w1 : IntKind.i64.wrap ((j : Int) + 1) = (j : Int) + 1 := wrap_i64 (by omega) (by omega)
        have hj' : (j : Int) < es.length := by omega
        obtain ⟨b, o, c', rr, e', q1, q2, q3, -⟩ := SE.get ((eA'.keep o6.chg).chg (b0.tr cc2) (fun i hi h => by
          simp at h
          have := me.sl.lt i hi
          omega)) he
        cases e'
        have eqe := @eqE8 e e
        simp only [E8.cs] at q3 m18
        simp [d3_21, rowOf_rw m16, rowOf_rw m18, rowOf_rw m7, rowRw_rw m16, hj, hj', q1, q2, q3, eqV, eqe, w1, -stepOut_normal]
        rw [stepOut_normal]
        have cs := Chg.set Hc (B4.length + 1) (.cells [.int .i64 ((j : Int) + 1)] .rw)
        have cs2 : Chg [B4.length + 1] Hb (Hc.set (B4.length + 1) (.cells [.int .i64 ((j : Int) + 1)] .rw)) := cc2.nil.tr' cs
        exact ⟨cs2.2 _ (loop_lt hlp) (by simp; omega), cs2.2 _ (lt_of_get hdd) (by simp; omega), ⟨b0.tr' cs2, by simp [lt_of_get m16], by omega⟩, cs2⟩
    focus
      rintro Hd ⟨d0, d1, d2⟩ hd'
      have enn : es.length = nn := by omega
      rw [enn] at d1
    rotate_left
    focus
      rintro x Hd hx ⟨rfl, d0, d1⟩ hd'
    all_goals
      simp only [tag_eq] at hd'
      have dg : ∀ {i : Nat} {X : AB}, B6[i]? = some X → i ≠ B4.length + 1 → Hd[i]? = some X := fun h hn => d0.get h (by simp; omega)
      have x6 : SI Hd (.slice xa cf.ins.length xc xs) cf.ins := (sx.keep (c7.tr (c8.tr (c9.tr c10)))).chg d0 (fun i hi h => by simp at h; have := sx.lt i hi; omega)
      have x7 : SI Hd (.slice va cf.ins.length vc vs) cf.ins := (sA.keep o6.chg).chg d0 (fun i hi h => by simp at h; have := sA.lt i hi; omega)
      have y6 : SE Hd (.slice ya es.length yc ys) es := (sw.keep (c7.tr (c8.tr (c9.tr c10)))).chg d0 (fun i hi h => by simp at h; have := sw.lt i hi; omega)
      have y7 : SE Hd (.slice ea es.length ec ez) es := (eA'.keep o6.chg).chg d0 (fun i hi h => by simp at h; have := me.sl.lt i hi; omega)
      have r10 := dg g10' (by omega)
      have r6 := dg (o6.chg.get g6 (by simp)) (by omega)
      have r7 := dg (o6.chg.get g7 (by simp)) (by omega)
      have r0 := dg (o6.chg.get g0A (by simp)) (by omega)
      have r15 := dg h15 (by omega)
      have hlr := right_len hr
      obtain ⟨q1, q2⟩ := opens_eq (k := k + 5000) x6 x7 y6 y7 (by omega) (by omega) (by omega)
      simp only [Cf.cs] at r6 q1
      simp [rowOf_rw r10, rowOf_rw r6]
      refine Hx.mapp q1 ?_
      rintro ⟨r, D1⟩ ⟨er, cD⟩
      simp only at er cD
      subst er
      simp [rowOf_rw (cD.get r7 (by simp))]
      refine Hx.mapp (q2 D1 cD) ?_
      rintro ⟨r, D2⟩ ⟨er, cD2⟩
      simp only at er cD2
      subst er
      have cDD := cD.tr cD2
      have u0 := cDD.get r0 (by simp)
      have hu : ∀ l, rowOf (D2.set H0.length (.cells l .rw)) H0.length = some l := fun l => rowOf_self (lt_of_get u0)
      have dfd : ∀ X, (D2.set H0.length X)[B6.length]? = some (.deferred false) := fun X => by rw [List.getElem?_set_ne (by omega)]; exact cDD.get hd' (by simp)
      have hu' : ∀ l Y, rowOf ((D2.set H0.length (.cells l .rw)).set B6.length Y) H0.length = some l := fun l Y => set_row (hu l) (by omega) Y
      simp [rowOf_rw (cDD.get d1 (by simp)), rowOf_rw (cDD.get r15 (by simp)), rowRw_rw u0, dfd, hu']
theorem journalBack_main (H : AH) (ass : List (List AV)) (hl : ass.length = [22, 5].length) (ha : ∀ (i : Nat) t al, [22, 5][i]? = some t → ass[i]? = some al → AR ap 6 H t al) :
    Hx (callA ap 30000 (.func 3 [] []) (List.zipWith (argA ap) [22, 5] ass) 0 H) fun r => r.1 = .bool true := by
  obtain ⟨K, hK⟩ : ∃ K, K = 30000 := ⟨_, rfl⟩
  rw [← hK]
  match ass, hl with
  | [a0, a1], _ =>
    obtain ⟨w, L, rfl, hw, hL⟩ := ar_u64s (ha 0 22 a0 rfl rfl) ty22 rfl ty70 rfl rfl
    obtain ⟨z, rfl, wz⟩ := ar_int (ha 1 5 a1 rfl rfl) ty5 rfl
    simp only [List.zipWith_cons_cons, List.zipWith_nil_right, argA_one ty22 rfl, argA_one ty5 rfl]
    exact journalBack_ok hw hL (wf_u8 wz) (by omega)
end
end Go.Proofs.Ytcmpldjoggeceaa.T.Jn
end
section
/-! Journals that are cut off: what is opened. -/
set_option linter.unusedVariables false
set_option linter.unusedSimpArgs false
set_option maxHeartbeats 4000000
set_option maxRecDepth 100000
namespace Go.Proofs.Ytcmpldjoggeceaa.T.Jn
open Go Go.Ab
open Fm (pos nrec walkI rcd conc)
open Tp (At TS Step appT cutT armT wakeT Pair eqT byT)
theorem conc_pre {ls : List (List Int)} (k : Nat) : (conc ls).take (conc (ls.take k)).length = conc (ls.take k) := by
  conv => lhs; arg 2; rw [← List.take_append_drop k ls]
  rw [Fm.conc_app, List.take_left']
  rfl
theorem conc_mono {ls : List (List Int)} {i k : Nat} (h : i ≤ k) : (conc (ls.take i)).length ≤ (conc (ls.take k)).length := by
  have : ls.take k = ls.take i ++ (ls.take k).drop i := by
    conv => lhs; rw [← List.take_append_drop i (ls.take k)]
    rw [List.take_take, Nat.min_eq_left h]
  rw [this, Fm.conc_app, List.length_append]
  omega
section
variable {ls : List (List Int)} (hf : ∀ i, i < ls.length → (ls.getD i []).length ≤ 400) {n k : Nat} (hk : k ≤ ls.length) (h1 : (conc (ls.take k)).length ≤ n)
include hf hk h1
theorem torn_rcd {j : Nat} (hj : j < k) : rcd ((conc ls).take n) j = ls.getD j [] := by
  have hmono := conc_mono (ls := ls) (i := j + 1) (k := k) hj
  have hl := congrArg List.length (Fm.conc_take (ls := ls) (i := j) (by omega))
  rw [List.length_append, Fm.recB_len] at hl
  unfold rcd
  rw [Fm.torn_pos hf hk h1 j (by omega), List.drop_take, Fm.conc_drop, Fm.conc_cons (by omega), Fm.nxt_keep (hf j (by omega)) _ (by omega)]
theorem torn_recs (h2 : n ≤ (conc ls).length) (h3 : k = ls.length ∨ n < (conc (ls.take (k + 1))).length) : recs ((conc ls).take n) = ls.take k := by
  have hn := Fm.torn_nrec hf hk h1 h2 h3
  apply List.ext_getElem
  · rw [recs_len, hn, List.length_take]; omega
  · intro j g1 g2
    have hj : j < k := by rw [recs_len, hn] at g1; exact g1
    have e1 := recs_get (bs := (conc ls).take n) (i := j) (by rw [hn]; exact hj)
    rw [torn_rcd hf hk h1 hj] at e1
    simp only [List.getD_eq_getElem?_getD, List.getElem?_eq_getElem g1, Option.getD_some] at e1
    rw [e1, List.getElem_take, List.getElem?_eq_getElem (by omega), Option.getD_some]
end
/-- How many records are whole. -/
theorem whole_ex (ls : List (List Int)) (n : Nat) : ∃ k, k ≤ ls.length ∧ (conc (ls.take k)).length ≤ n ∧ (k = ls.length ∨ n < (conc (ls.take (k + 1))).length) := by
  have key : ∀ d, d ≤ ls.length → ∃ k, k ≤ ls.length ∧ (conc (ls.take k)).length ≤ n ∧ (d ≤ k ∨ n < (conc (ls.take (k + 1))).length) := by
    intro d
    induction d with
    | zero => exact fun _ => ⟨0, by omega, by simp [conc], .inl (by omega)⟩
    | succ d ih =>
      intro hd
      obtain ⟨k, h1, h2, h3⟩ := ih (by omega)
      rcases h3 with h3 | h3
      · by_cases hkd : d + 1 ≤ k
        · exact ⟨k, h1, h2, .inl hkd⟩
        · have : k = d := by omega
          subst this
          by_cases hn : (conc (ls.take (k + 1))).length ≤ n
          · exact ⟨k + 1, hd, hn, .inl (by omega)⟩
          · exact ⟨k, h1, h2, .inr (by omega)⟩
      · exact ⟨k, h1, h2, .inr h3⟩
  obtain ⟨k, h1, h2, h3⟩ := key ls.length (Nat.le_refl _)
  exact ⟨k, h1, h2, h3.imp (by omega) id⟩
section
variable {c : Cf} {es : List E8} {n k : Nat}
/-- The records of a journal. -/
def rs (c : Cf) (es : List E8) : List (List Int) := Pl.putB c :: es.map putE
@[simp] theorem rs_len : (rs c es).length = es.length + 1 := by simp [rs]
theorem rs_take (j : Nat) : conc ((rs c es).take (j + 1)) = jr c (es.take j) := by simp [rs, jr, List.map_take]
theorem rs_all : conc (rs c es) = jr c es := rfl
theorem torn_open (hr : rightC c = true) (hf : FitC c) (he : ∀ e ∈ es, rt e = true) (hk : k ≤ es.length + 1) (h1 : (conc ((rs c es).take k)).length ≤ n) (h2 : n ≤ (jr c es).length) (h3 : k = es.length + 1 ∨ n < (conc ((rs c es).take (k + 1))).length) :
    openT { tj c es with bs := (jr c es).take n } = if k = 0 then ((3, .zero, []), t0) else ((0, c, es.take (k - 1)), tj c (es.take (k - 1))) := by
  have hfit := jr_fit (c := c) (es := es) hr
  have hk' : k ≤ (rs c es).length := by simpa using hk
  have hrec := torn_recs (ls := rs c es) hfit hk' h1 h2 (by simpa using h3)
  have hnr := Fm.torn_nrec (ls := rs c es) hfit hk' h1 h2 (by simpa using h3)
  have hpos := Fm.torn_pos (ls := rs c es) hfit hk' h1 k (Nat.le_refl _)
  have hpre := conc_pre (ls := rs c es) k
  rw [rs_all] at hrec hnr hpos hpre
  have hlen : ((jr c es).take n).length = n := by rw [List.length_take]; omega
  obtain ⟨m, hm⟩ : ∃ m, m = (conc ((rs c es).take k)).length := ⟨_, rfl⟩
  rw [← hm] at h1 hpos hpre
  have hcut : ((jr c es).take n).take m = conc ((rs c es).take k) := by rw [List.take_take, Nat.min_eq_left h1, hpre]
  have hop : openJ ((rs c es).take k) = if k = 0 then (3, .zero, []) else (0, c, es.take (k - 1)) := by
    cases k with
    | zero => rfl
    | succ j =>
      have e1 : (rs c es).take (j + 1) = rs c (es.take j) := by simp [rs, List.map_take]
      rw [e1, if_neg (by omega), Nat.add_sub_cancel]
      exact openJ_3 (decC_some hr hf) (decAll_put fun e h => he e (List.mem_of_mem_take h))
  have hbs : ({ tj c es with bs := conc ((rs c es).take k) } : TS) = if k = 0 then t0 else tj c (es.take (k - 1)) := by
    cases k with
    | zero => rfl
    | succ j => rw [if_neg (by omega), Nat.add_sub_cancel, rs_take]; rfl
  unfold openT
  simp only [hnr, hpos, hrec, hlen, hop]
  rw [if_neg (by simp [tj, t0])]
  have fin : ∀ (a : TS), a = { tj c es with bs := conc ((rs c es).take k) } → ((if k = 0 then ((3, .zero, []) : Int × Cf × List E8) else (0, c, es.take (k - 1))), a) = if k = 0 then ((3, .zero, []), t0) else ((0, c, es.take (k - 1)), tj c (es.take (k - 1))) := by
    intro a ha
    rw [ha, hbs]
    split <;> rfl
  by_cases hlt : m < n
  · rw [if_pos hlt]
    have hct : cutT { tj c es with bs := (jr c es).take n } (m : Int) = (0, { tj c es with bs := conc ((rs c es).take k) }) := by
      unfold cutT Tp.lastT
      rw [if_neg (by simp [tj, t0]), if_neg (by simp only [hlen]; omega)]
      simp [tj, t0, hcut]
    rw [hct, if_pos rfl]
    exact fin _ rfl
  · rw [if_neg hlt]
    refine fin _ ?_
    have : m = n := by omega
    rw [← hcut, this, List.take_take, Nat.min_self]
end
end Go.Proofs.Ytcmpldjoggeceaa.T.Jn
end
section
/-! JournalTorn. -/
set_option linter.unusedVariables false
set_option linter.unusedSimpArgs false
set_option maxHeartbeats 4000000
set_option maxRecDepth 100000
namespace Go.Proofs.Ytcmpldjoggeceaa.T.Jn
open Go Go.Ab
open Fm (pos nrec walkI conc)
open Tp (At TS Step appT cutT armT wakeT Pair eqT byT)
section
variable {H0 H A H' : AH} {p q k n : Nat} {v u : AV} {t r : TS} {c : Cf} {es : List E8}
/-- Numbers as cells. -/
def iC (l : List Nat) : List AV := l.map fun n : Nat => AV.int .i64 (n : Int)
@[simp] theorem iC_len {l : List Nat} : (iC l).length = l.length := by simp [iC]
/-- Where the records end. -/
def endsL (c : Cf) (es : List E8) (i : Nat) : List Nat := (List.range (i + 1)).map fun j => (jr c (es.take j)).length
@[simp] theorem endsL_len {i : Nat} : (endsL c es i).length = i + 1 := by simp [endsL]
theorem endsL_succ (i : Nat) : endsL c es (i + 1) = endsL c es i ++ [(jr c (es.take (i + 1))).length] := by
  simp only [endsL]
  rw [List.range_succ, List.map_append]
  rfl
theorem endsL_get {i j : Nat} (h : j ≤ i) : (endsL c es i)[j]? = some (jr c (es.take j)).length := by
  simp only [endsL, List.getElem?_map]
  rw [List.getElem?_range (by omega)]
  rfl
theorem evs_take (j : Nat) : (evsC es).take (j * 8) = evsC (es.take j) := by
  have h : evsC es = evsC (es.take j) ++ evsC (es.drop j) := by
    unfold evsC
    rw [← List.flatten_append, ← List.map_append, List.take_append_drop]
  by_cases hj : j ≤ es.length
  · rw [h, List.take_left' (by rw [evsC_len, List.length_take, Nat.min_eq_left hj]; omega)]
  · rw [List.take_of_length_le (by rw [evsC_len]; omega), List.take_of_length_le (by omega)]
theorem journalTorn_ok {w : AV} {L : List Int} {cut : Int} (hw : SL H0 1 w (u64s L)) (hL : ∀ x ∈ L, U64 x) (hcut : 0 ≤ cut ∧ cut < 65536) (hk : 20000 < k) : Hx (callA ap k (.func 4 [] []) [w, .int .u16 cut] 0 H0) fun r => r.1 = .bool true := by
  obtain ⟨k, rfl⟩ : ∃ k', k = k' + 5001 := ⟨k - 5001, by omega⟩
  rw [hx_go fn4 rfl, b4]
  obtain ⟨wa, wn, wc, ws, rfl, -⟩ := hw.form
  have nw := fun lo H => @Tp.new_ok (k + 4999) lo H 100000
  rw [show min (max (100000 : Int) 0) 1048576 = 100000 by omega] at nw
  simp [f4]
  refine Hx.mapp (known_ok (by omega)) ?_
  rintro ⟨r, H1⟩ ⟨er, c1⟩
  simp only at er c1
  subst er
  simp
  refine Hx.mapp (of_ok (hw.keep c1) hL) ?_
  rintro ⟨r, H2⟩ ⟨er, dk, c2⟩
  simp only at er dk c2
  subst er
  have dk2l := dk.lt
  simp
  refine Hx.mapp (config_ok (k := k + 4980) dk (by omega)) ?_
  rintro ⟨r, H3⟩ ⟨cv, cf, er, mv, hr, hf, dk3, c3, fv⟩
  simp only at er mv dk3 c3 fv
  subst er
  obtain ⟨va, vc, vs, rfl⟩ := SI.form (l := cf.ins) mv.sl
  obtain ⟨G4, e4⟩ : ∃ G4, G4 = H3 ++ [.cells (cf.cs (.slice va cf.ins.length vc vs)) .rw] := ⟨_, rfl⟩
  have c4 : Chg [] H3 G4 := by rw [e4]; exact .app _ _
  have g4 : G4[H3.length]? = some (.cells (cf.cs (.slice va cf.ins.length vc vs)) .rw) := by rw [e4]; simp
  have s4 : SI G4 (.slice va cf.ins.length vc vs) cf.ins := mv.sl.keep c4
  have l01 := c1.1
  have l12 := c2.1
  have l23 := c3.1
  have l34 : G4.length = H3.length + 1 := by rw [e4]; simp
  have key := events_ok (k := k + 4900) (dk3.keep c4) (by omega) s4 (fun h => by have := fv _ h; omega) hr
  simp only [Cf.cs] at e4 key g4
  simp [Cf.cs]
  rw [← e4]
  simp [rowOf_rw g4]
  refine Hx.mapp key ?_
  rintro ⟨ev, H5⟩ ⟨es, me, hes, hel, dk5, c5, fe⟩
  simp only at me dk5 c5 fe
  obtain ⟨ea, ec, ez, rfl⟩ := SE.form (l := es) me.sl
  obtain ⟨A, eA⟩ : ∃ A, A = H5 := ⟨_, rfl⟩
  have cA : Chg [] H5 A := by rw [eA]; exact .refl
  have l45 := c5.1
  have g6 := cA.get (c5.get g4 (by simp; omega)) (by simp)
  have sA : SI A (.slice va cf.ins.length vc vs) cf.ins := (s4.chg c5 (fun i hi h => by simp at h; have := fv i hi; omega)).keep cA
  have eA' : SE A (.slice ea es.length ec ez) es := me.sl.keep cA
  simp
  rw [← eA]
  obtain ⟨B, eB⟩ : ∃ B, B = A ++ [.cells (Tp.tcells (.slice none 0 (some 0) 0) ⟨[], 100000, false, false, 0, 0⟩) .rw] := ⟨_, rfl⟩
  have cB : Chg [] A B := by rw [eB]; exact .app _ _
  have oB : Own A B A.length t0 := by rw [eB]; exact ⟨⟨_, at_t0, by simp⟩, .app _ _, Nat.le_refl _⟩
  simp [nw]
  rw [← eB]
  have key := own_start (k := k + 5000) oB (sA.keep cB) hr hf (by omega)
  simp only [Cf.cs] at key
  simp [eqV, rowOf_rw (cB.get g6 (by simp))]
  refine Hx.mapp key ?_
  rintro ⟨r, B1⟩ ⟨er, o1⟩
  simp only at er o1
  subst er
  obtain ⟨v1, hv1, fv1⟩ := o1.ex
  have ln := fun (k : Nat) (H : AH) (p : Nat) (v : AV) (t : TS) (h : At false H p v t) => @Tp.len_ok k 0 H p v t h
  have e10 : (tj cf []).bs.length = (jr cf []).length := rfl
  simp [ln _ _ _ _ _ hv1, e10]
  obtain ⟨B2, e2⟩ : ∃ B2, B2 = B1 ++ [.cells [.int .i64 (jr cf []).length] .rw] := ⟨_, rfl⟩
  have c2x : Chg [] B1 B2 := by rw [e2]; exact .app _ _
  have l1A := o1.chg.1
  have mw : Mine B2 1 (.slice (some (B1.length, 0)) 1 (some 1) 1) (iC (endsL cf es 0)) := by
    have := Mine.new (H := B1) (X := B2) (l := [.int .i64 (jr cf []).length]) (n := 1) (c := some 1) Nat.one_pos e2 (by simp) (by simp)
    simpa [iC, endsL] using this
  have hpA := hv1.lt
  have hd1 : ∀ b ∈ blk (AV.slice (some (B1.length, 0)) 1 (some 1) 1), A.length < b ∧ b ∉ blk v1 := fun b hb => by
    simp at hb
    subst hb
    exact ⟨by omega, fun h => by have := hv1.mine.lt _ h; omega⟩
  rw [← e2]
  refine hx_up (fun i st => ∃ B' v' w', st = ⟨sp 142 [(1, .int .u16 cut), (6, .ptr (some (H3.length, 0))), (7, .slice ea es.length ec ez), (8, .ptr (some (A.length, 0))), (9, w'), (10, .int .i64 i)], B', []⟩ ∧ At false B' A.length v' (tj cf (es.take i)) ∧ (∀ b ∈ blk v', A.length ≤ b) ∧ Chg [] A B' ∧
    Mine B' 1 w' (iC (endsL cf es i)) ∧ ∀ b ∈ blk w', A.length < b ∧ b ∉ blk v') es.length ?_ ?_ (by omega)
    ⟨B2, v1, _, by simp [maskS], by simpa using hv1.keep c2x, fv1, o1.chg.tr c2x, mw, hd1⟩
  · rintro i st hi ⟨B', v', w', rfl, hv', fv', cB', mw', dw'⟩
    have hi' : (i : Int) < es.length := by omega
    have w1 : IntKind.i64.wrap ((i : Int) + 1) = (i : Int) + 1 := wrap_i64 (by omega) (by omega)
    obtain ⟨b, o, c', rr, e', g1, g2, g3, -⟩ := SE.get (eA'.keep cB') (gete hi)
    cases e'
    obtain ⟨ya, yn, yc, ys, rfl, -⟩ := mw'.sl.form
    have key := add_ok (k := k + 5000) (e := es[i]) hv' (by omega)
    rw [tj_add hr (hes _ (List.getElem_mem hi)) (by simp; omega), ← List.take_succ_eq_append_getElem hi] at key
    simp only [E8.cs] at g3 key
    simp [hi, hi', g1, g2, g3]
    refine Hx.mapp key ?_
    rintro ⟨r, B3⟩ ⟨er, v3, hv3, cc3, kk3⟩
    simp only at er hv3 cc3 kk3
    subst er
    have nF : ∀ b ∈ blk (AV.slice ya yn yc ys), b ∉ A.length :: blk v' := fun b hb h => by
      obtain ⟨d1, d2⟩ := dw' b hb
      rcases List.mem_cons.1 h with h | h
      · omega
      · exact d2 h
    have l'' := cB'.1
    have mw3 := mw'.chg cc3 nF
    have cA3 : Chg [] A B3 := cB'.trans cc3 (fun b hb => .inr (by
      rcases List.mem_cons.1 hb with h | h
      · omega
      · exact fv' b h))
    have fv3 : ∀ b ∈ blk v3, A.length ≤ b := fun b hb => (kk3 b hb).elim (fv' b) (fun h => by omega)
    have e11 : (tj cf (es.take (i + 1))).bs.length = (jr cf (es.take (i + 1))).length := rfl
    simp [ln _ _ _ _ _ hv3, e11]
    obtain ⟨B4, e4'⟩ : ∃ B4, B4 = B3 ++ [.cells [.int .i64 (jr cf (es.take (i + 1))).length] .rw] := ⟨_, rfl⟩
    have c4' : Chg [] B3 B4 := by rw [e4']; exact .app _ _
    have s4' : SL B4 1 (.slice (some (B3.length, 0)) 1 (some 1) 1) [.int .i64 (jr cf (es.take (i + 1))).length] := by
      rw [e4']
      exact SL.mk Nat.one_pos (rowOf_rw (by simp)) (by simp) (by simp)
    rw [← e4']
    refine Hx.mapp ((mw3.keep c4').append (by_ := 8) s4' Nat.one_pos (by omega) (by simp) (by simp [room]; omega)) ?_
    rintro ⟨w5, B5⟩ ⟨m5, c5', k5⟩
    simp only at m5 c5' k5
    rw [show iC (endsL cf es i) ++ [AV.int .i64 (jr cf (es.take (i + 1))).length] = iC (endsL cf es (i + 1)) by rw [endsL_succ]; simp [iC]] at m5
    have l3 := cc3.1
    have l4 := c4'.1
    have hv5 := (hv3.keep c4').chg c5' (fun h => by have := (dw' _ h).1; omega) (fun b hb h => (kk3 b hb).elim (fun g => (dw' _ h).2 g) (fun g => by have := mw'.lt _ h; omega))
    have dw5 : ∀ b ∈ blk w5, A.length < b ∧ b ∉ blk v3 := fun b hb => by
      rcases k5 b hb with h | h
      · have hd := dw' b h
        exact ⟨hd.1, fun g => (kk3 b g).elim hd.2 (fun g => by have := mw'.lt _ h; omega)⟩
      · exact ⟨by have := hv'.lt; omega, fun g => by have := hv3.mine.lt _ g; omega⟩
    simp [w1, maskS]
    exact ⟨_, _, _, ⟨rfl, rfl⟩, hv5, fv3, (cA3.tr c4').trans c5' (fun b hb => .inr (by have := (dw' b hb).1; omega)), m5, dw5⟩
  · rintro st ⟨B', v', w', rfl, hv', fv', cB', mw', dw'⟩
    rw [List.take_length] at hv'
    have e12 : (tj cf es).bs.length = (jr cf es).length := rfl
    have hjl := tj_len (c := cf) (es := es) hr
    have hlr := right_len hr
    rw [e12] at hjl
    have wl : IntKind.i64.wrap (((jr cf es).length : Int) + 1) = ((jr cf es).length : Int) + 1 := wrap_i64 (by omega) (by omega)
    have wc1 : IntKind.i64.wrap cut = cut := wrap_i64 (by omega) (by omega)
    have hn0 : ¬ ((jr cf es).length : Int) + 1 = 0 := by omega
    have ht : cut.tmod (((jr cf es).length : Int) + 1) = cut % (((jr cf es).length : Int) + 1) := Int.tmod_eq_emod_of_nonneg hcut.1
    obtain ⟨mm, hmm⟩ : ∃ mm : Nat, cut % (((jr cf es).length : Int) + 1) = mm := ⟨(cut % (((jr cf es).length : Int) + 1)).toNat, by have := Int.emod_nonneg cut hn0; omega⟩
    have hml : mm ≤ (jr cf es).length := by have := Int.emod_lt_of_pos cut (b := ((jr cf es).length : Int) + 1) (by omega); omega
    have hct : cutT (tj cf es) (mm : Int) = (0, { tj cf es with bs := (jr cf es).take mm }) := by
      unfold cutT Tp.lastT
      rw [if_neg (by simp [tj, t0]), if_neg (by rw [e12]; omega)]
      simp [tj, t0]
    obtain ⟨K, hK1, hK2, hK3⟩ := whole_ex (rs cf es) mm
    have hto := torn_open hr hf hes (by simpa using hK1) hK2 hml (by simpa using hK3)
    obtain ⟨t1, ht1⟩ : ∃ t1 : TS, t1 = { tj cf es with bs := (jr cf es).take mm } := ⟨_, rfl⟩
    rw [← ht1] at hct hto
    have hB1 : Byt t1.bs := by rw [ht1]; exact (tj_byt hr hf hes).take mm
    have hl1 : t1.bs.length ≤ 1000 := by rw [ht1, List.length_take]; omega
    have key := Tp.cut_ok (k := k + 4998) hv' (n := (mm : Int))
    rw [hct] at key
    simp only [rs_len] at hK1 hK3
    simp [ln _ _ _ _ _ hv', e12, wl, wc1, hn0, ht, hmm]
    refine Hx.mapp key ?_
    rintro ⟨r, B6⟩ ⟨er, v6, hv6, cc6, kk6⟩
    simp only at er hv6 cc6 kk6
    subst er
    have hp' := hv'.lt
    have l'' := cB'.1
    have nF : ∀ b ∈ blk w', b ∉ A.length :: blk v' := fun b hb h => by
      obtain ⟨d1, d2⟩ := dw' b hb
      rcases List.mem_cons.1 h with h | h
      · omega
      · exact d2 h
    have mw6 := mw'.chg cc6 nF
    have cA6 : Chg [] A B6 := cB'.trans cc6 (fun b hb => .inr (by
      rcases List.mem_cons.1 hb with h | h
      · omega
      · exact fv' b h))
    have fv6 : ∀ b ∈ blk v6, A.length ≤ b := fun b hb => (kk6 b hb).elim (fv' b) (fun h => by omega)
    have dw6 : ∀ b ∈ blk w', A.length < b ∧ b ∉ blk v6 := fun b hb => ⟨(dw' b hb).1, fun g => (kk6 b g).elim (dw' b hb).2 (fun g => by have := mw'.lt _ hb; omega)⟩
    obtain ⟨xa, xc, xs, rfl⟩ := mw6.sl.form1
    simp only [iC_len, endsL_len] at mw6 dw6 mw' ⊢
    simp
    refine hx_up (fun i st => st = ⟨sp 142 [(6, .ptr (some (H3.length, 0))), (7, .slice ea es.length ec ez), (8, .ptr (some (A.length, 0))), (9, .slice xa (es.length + 1) xc xs), (11, .int .i64 mm), (12, .int .i64 ((i : Int) - 1))], B6, []⟩) K ?_ ?_ (by omega) (by simp [maskS])
    · rintro i st hi rfl
      have hi' : (i : Int) < (es.length : Int) + 1 := by omega
      obtain ⟨b, o, c', l9, e9, q1, q2⟩ := mw6.sl.get1 (i := i) (by simp; omega)
      simp only [iC_len, endsL_len] at e9
      cases e9
      have q3 : l9[o + i]? = some (.int .i64 (jr cf (es.take i)).length) := by
        rw [q2]
        simp only [iC, List.getElem?_map, endsL_get (show i ≤ es.length by omega)]
        rfl
      have hle : (jr cf (es.take i)).length ≤ mm := by
        have := conc_mono (ls := rs cf es) (i := i + 1) (k := K) (by omega)
        rw [rs_take] at this
        omega
      have hle' : ((jr cf (es.take i)).length : Int) ≤ mm := by omega
      have w1 : IntKind.i64.wrap (i : Int) = i := wrap_i64 (by omega) (by omega)
      simp [w1, hi', q1, q3, hle, maskS]
    · rintro st rfl
      have w1 : IntKind.i64.wrap (K : Int) = K := wrap_i64 (by omega) (by omega)
      have kop := open_ok (k := k + 5000) hv6 hB1 (by omega)
      rw [hto] at kop
      have kop' := kop.mono (fun r h => h.1)
      by_cases hKl : K = es.length + 1
      focus
        have hi' : ¬ (K : Int) < (es.length : Int) + 1 := by omega
        simp [w1, hi']
      rotate_left
      focus
        have hi' : (K : Int) < (es.length : Int) + 1 := by omega
        obtain ⟨b, o, c', l9, e9, q1, q2⟩ := mw6.sl.get1 (i := K) (by simp; omega)
        simp only [iC_len, endsL_len] at e9
        cases e9
        have q3 : l9[o + K]? = some (.int .i64 (jr cf (es.take K)).length) := by
          rw [q2]
          simp only [iC, List.getElem?_map, endsL_get (show K ≤ es.length by omega)]
          rfl
        have hle : ¬ (jr cf (es.take K)).length ≤ mm := by
          rcases hK3 with h | h
          · omega
          · rw [rs_take] at h; omega
        simp [w1, hi', q1, q3, hle]
      all_goals
        refine Hx.mapp kop' ?_
        rintro ⟨r, B7⟩ ⟨x7, w7, v7, er, sx, sw, fx, fw, hv7, cc7, kk7⟩
        simp only at er sx sw fx fw hv7 cc7 kk7
        subst er
        have lB7 := cc7.1
        have lB6 := cA6.1
        have cA7 : Chg [] A B7 := cA6.trans cc7 (fun b hb => .inr (by
          rcases List.mem_cons.1 hb with h | h
          · omega
          · exact fv6 b h))
        have fv7 : ∀ b ∈ blk v7, A.length ≤ b := fun b hb => (kk7 b hb).elim (fv6 b) (fun h => by omega)
        have mw7 := mw6.chg cc7 (fun b hb h => by
          obtain ⟨d1, d2⟩ := dw6 b hb
          rcases List.mem_cons.1 h with h | h
          · omega
          · exact d2 h)
        cases K
        focus
          simp only [if_pos rfl] at sx sw hv7
          obtain ⟨a7, d7, s7, rfl⟩ := SI.form sx
          obtain ⟨a8, d8, s8, rfl⟩ := SE.form sw
          have hv9 := hv7.keep (Chg.app B7 [.cells (Cf.zero.cs (.slice a7 Cf.zero.ins.length d7 s7)) .rw])
          simp only [Cf.cs, Cf.zero, List.length_nil] at hv9
          have z0 : t0.bs.length = 0 := rfl
          simp [Cf.cs, Cf.zero, ln _ _ _ _ _ hv9, z0]
        focus
          rename_i j
          simp only [if_neg (Nat.succ_ne_zero j), Nat.add_sub_cancel] at sx sw hv7 fx fw ⊢
          obtain ⟨a7, d7, s7, rfl⟩ := SI.form sx
          obtain ⟨a8, d8, s8, rfl⟩ := SE.form sw
          have hjl' : (es.take j).length = j := by rw [List.length_take]; omega
          rw [hjl'] at sw ⊢
          obtain ⟨C1, eC1⟩ : ∃ C1, C1 = B7 ++ [.cells (cf.cs (.slice a7 cf.ins.length d7 s7)) .rw] := ⟨_, rfl⟩
          have cC1 : Chg [] B7 C1 := by rw [eC1]; exact .app _ _
          have g13 : C1[B7.length]? = some (.cells (cf.cs (.slice a7 cf.ins.length d7 s7)) .rw) := by rw [eC1]; simp
          have oC : Own A C1 A.length (tj cf (es.take j)) := ⟨⟨v7, hv7.keep cC1, fv7⟩, cA7.tr cC1, Nat.le_refl _⟩
          have hj0 : ¬ (j : Int) < 0 := by omega
          simp only [Cf.cs] at eC1 g13
          simp [Cf.cs, hj0]
          rw [← eC1]
          refine Hx.mapp (own_open oC hr hf (fun e h => hes e (List.mem_of_mem_take h)) (by omega) (by omega)) ?_
          rintro ⟨r, C2⟩ ⟨x8, w8, er, sx8, sw8, c8⟩
          simp only at er sx8 sw8 c8
          subst er
          obtain ⟨a9, d9, s9, rfl⟩ := SI.form sx8
          obtain ⟨aa, da, sa, rfl⟩ := SE.form sw8
          rw [hjl'] at sw8 ⊢
          obtain ⟨C3, eC3⟩ : ∃ C3, C3 = C2 ++ [.cells (cf.cs (.slice a9 cf.ins.length d9 s9)) .rw] := ⟨_, rfl⟩
          have cC3 : Chg [] C2 C3 := by rw [eC3]; exact .app _ _
          have g16 : C3[C2.length]? = some (.cells (cf.cs (.slice a9 cf.ins.length d9 s9)) .rw) := by rw [eC3]; simp
          simp only [Cf.cs] at eC3 g16
          simp [Cf.cs]
          rw [← eC3]
          refine hx_drawn dc4_26 fun D cD _ _ => ?_
          have c3D : Chg [] C2 D := cC3.tr cD
          have c1D : Chg [] C1 D := c8.tr c3D
          have cAD : Chg [] A D := (cA7.tr cC1).tr c1D
          have r13 := c1D.get g13 (by simp)
          have r16 := cD.get g16 (by simp)
          have r6 := cAD.get g6 (by simp)
          have X7 := sx.keep (cC1.tr c1D)
          have X8 := sx8.keep c3D
          have X6 := sA.keep cAD
          have Y7 := sw.keep (cC1.tr c1D)
          have Y8 := sw8.keep c3D
          obtain ⟨p1, -⟩ := opens_eq (k := k + 5000) X7 X6 Y7 Y7 (by omega) (by omega) (by omega)
          simp only [Cf.cs] at r6 p1
          simp [d4_26, rowOf_rw r13, rowOf_rw r6]
          refine Hx.mapp p1 ?_
          rintro ⟨r, D1⟩ ⟨er, cD1⟩
          simp only at er cD1
          subst er
          obtain ⟨p2, -⟩ := opens_eq (k := k + 5000) (X8.keep cD1) (X6.keep cD1) (Y8.keep cD1) (Y8.keep cD1) (by omega) (by omega) (by omega)
          simp only [Cf.cs] at p2
          simp [rowOf_rw (cD1.get r16 (by simp)), rowOf_rw (cD1.get r6 (by simp))]
          refine Hx.mapp p2 ?_
          rintro ⟨r, D2⟩ ⟨er, cD2⟩
          simp only at er cD2
          subst er
          have c12 := cD1.tr cD2
          obtain ⟨vs', hcut1, hcut2, -, -⟩ := ((eA'.keep cAD).keep c12).cut (low := none) (high := some (.int .i64 (j : Int))) (by omega) (lo := 0) (hi := j) (by omega) (by rw [evsC_len]; omega) rfl (fun _ _ => rfl)
          rw [Nat.zero_mul, List.drop_zero, evs_take] at hcut2
          obtain ⟨p3, p4⟩ := opens_eq (k := k + 5000) (X8.keep c12) (X6.keep c12) (Y7.keep c12) hcut2 (by omega) (by omega) (by omega)
          replace p4 := p4 D2 .refl
          simp [hcut1]
          refine Hx.mapp p4 ?_
          rintro ⟨r, D3⟩ ⟨er, cD3⟩
          simp only at er cD3
          subst er
          have c13 := c12.tr cD3
          obtain ⟨-, p5⟩ := opens_eq (k := k + 5000) (X8.keep c13) (X6.keep c13) (Y8.keep c13) (Y7.keep c13) (by omega) (by omega) (by omega)
          replace p5 := p5 D3 .refl
          simp
          refine Hx.mapp p5 ?_
          rintro ⟨r, D4⟩ ⟨er, cD4⟩
          simp only at er cD4
          subst er
          have c14 := c13.tr cD4
          have hvD := hv7.keep ((cC1.tr c1D).tr c14)
          have mwD := (mw7.keep (cC1.tr c1D)).keep c14
          obtain ⟨b, o, c', l9, e9, q1, q2⟩ := mwD.sl.get1 (i := j) (by simp; omega)
          simp only [iC_len, endsL_len] at e9
          cases e9
          have q3 : l9[o + j]? = some (.int .i64 (jr cf (es.take j)).length) := by
            rw [q2]
            simp only [iC, List.getElem?_map, endsL_get (show j ≤ es.length by omega)]
            rfl
          have e13 : (tj cf (es.take j)).bs.length = (jr cf (es.take j)).length := rfl
          have hjj : (j : Int) < (es.length : Int) + 1 := by omega
          simp [q1, q3, hjj, ln _ _ _ _ _ hvD, e13]
theorem journalTorn_main (H : AH) (ass : List (List AV)) (hl : ass.length = [22, 50].length) (ha : ∀ (i : Nat) t al, [22, 50][i]? = some t → ass[i]? = some al → AR ap 6 H t al) :
    Hx (callA ap 30000 (.func 4 [] []) (List.zipWith (argA ap) [22, 50] ass) 0 H) fun r => r.1 = .bool true := by
  obtain ⟨K, hK⟩ : ∃ K, K = 30000 := ⟨_, rfl⟩
  rw [← hK]
  match ass, hl with
  | [a0, a1], _ =>
    obtain ⟨w, L, rfl, hw, hL⟩ := ar_u64s (ha 0 22 a0 rfl rfl) ty22 rfl ty70 rfl rfl
    obtain ⟨z, rfl, wz⟩ := ar_int (ha 1 50 a1 rfl rfl) ty50 rfl
    simp [Lit.wf, IntKind.has, IntKind.min, IntKind.max, IntKind.bits, IntKind.signed] at wz
    simp only [List.zipWith_cons_cons, List.zipWith_nil_right, argA_one ty22 rfl, argA_one ty50 rfl]
    exact journalTorn_ok hw hL (by omega) (by omega)
end
end Go.Proofs.Ytcmpldjoggeceaa.T.Jn
end
section
/-! JournalFlight. -/
set_option linter.unusedVariables false
set_option linter.unusedSimpArgs false
set_option maxHeartbeats 4000000
set_option maxRecDepth 100000
namespace Go.Proofs.Ytcmpldjoggeceaa.T.Jn
open Go Go.Ab
open Fm (pos nrec walkI conc)
open Tp (At TS Step appT cutT armT wakeT lastT cl Pair eqT byT)
section
variable {H0 H A H' : AH} {p q k n : Nat} {v u : AV} {t r : TS} {c : Cf} {es : List E8}
theorem torn_open1 (hr : rightC c = true) (hf : FitC c) (he : ∀ e ∈ es, rt e = true) (hk : k ≤ es.length + 1) (h1 : (conc ((rs c es).take k)).length ≤ n) (h2 : n ≤ (jr c es).length) (h3 : k = es.length + 1 ∨ n < (conc ((rs c es).take (k + 1))).length)
    (hb : t.bs = (jr c es).take n) (hd : t.down = false) (ha : t.armed = false) : (openT t).1 = if k = 0 then (3, .zero, []) else (0, c, es.take (k - 1)) := by
  have hfit := jr_fit (c := c) (es := es) hr
  have hk' : k ≤ (rs c es).length := by simpa using hk
  have hrec := torn_recs (ls := rs c es) hfit hk' h1 h2 (by simpa using h3)
  have hnr := Fm.torn_nrec (ls := rs c es) hfit hk' h1 h2 (by simpa using h3)
  have hpos := Fm.torn_pos (ls := rs c es) hfit hk' h1 k (Nat.le_refl _)
  rw [rs_all] at hrec hnr hpos
  have hlen : ((jr c es).take n).length = n := by rw [List.length_take]; omega
  have hop : openJ ((rs c es).take k) = if k = 0 then (3, .zero, []) else (0, c, es.take (k - 1)) := by
    cases k with
    | zero => rfl
    | succ j =>
      have e1 : (rs c es).take (j + 1) = rs c (es.take j) := by simp [rs, List.map_take]
      rw [e1, if_neg (by omega), Nat.add_sub_cancel]
      exact openJ_3 (decC_some hr hf) (decAll_put fun e h => he e (List.mem_of_mem_take h))
  unfold openT
  simp only [hb, hnr, hpos, hrec, hlen, hop, hd]
  rw [if_neg (by simp)]
  split
  · rename_i hlt
    have hct : (cutT t ((conc ((rs c es).take k)).length : Int)).1 = 0 := by
      unfold cutT Tp.lastT
      rw [hd, if_neg (by simp), if_neg (by rw [hb, hlen]; omega), ha]
      simp
    rw [if_pos hct]
  · rfl
/-- An armed tape with a journal. -/
def ta (c : Cf) (es : List E8) (w kp : Int) : TS := { tj c es with armed := true, writes := w, keep := kp }
theorem ta_add (hr : rightC c = true) {e : E8} (he : rt e = true) (hl : es.length ≤ 100) {w kp : Int} (hw : 0 < w) : addT (ta c es w kp) e = (0, ta c (es ++ [e]) (w - 1) kp) := by
  have hjl := jr_len (c := c) (es := es) hr
  have hpe := putE_len e
  have h1 : (ta c es w kp).bs = jr c es := rfl
  unfold addT appT
  rw [if_pos he, if_neg (by simp [ta, tj, t0]), if_neg (by rw [Fm.recB_len, h1]; simp [ta, tj, t0]; omega)]
  simp [ta, tj, t0, Tp.lastT, hw, jr_snoc]
theorem ta_fall (hr : rightC c = true) {e : E8} (he : rt e = true) (hl : es.length ≤ 100) {kp : Int} : addT (ta c es 0 kp) e = (15, { tj c es with bs := jr c es ++ (Fm.recB (putE e)).take (Tp.cl kp (Fm.recB (putE e)).length), armed := false, down := true, writes := 0, keep := kp }) := by
  have hjl := jr_len (c := c) (es := es) hr
  have hpe := putE_len e
  have h1 : (ta c es 0 kp).bs = jr c es := rfl
  unfold addT appT
  rw [if_pos he, if_neg (by simp [ta, tj, t0]), if_neg (by rw [Fm.recB_len, h1]; simp [ta, tj, t0]; omega)]
  simp [ta, tj, t0, Tp.lastT]
theorem flight_open (hr : rightC c = true) (hf : FitC c) (he : ∀ e ∈ es, rt e = true) (hk : k < es.length) {m : Nat} (hb : t.bs = jr c (es.take k) ++ (Fm.recB (putE es[k])).take m) (hd : t.down = false) (ha : t.armed = false) :
    ∃ L, (openT t).1 = (0, c, es.take L) ∧ (L = k ∨ L = k + 1) := by
  have e1 : es.take (k + 1) = es.take k ++ [es[k]] := List.take_succ_eq_append_getElem hk
  have hjr : jr c (es.take (k + 1)) = jr c (es.take k) ++ Fm.recB (putE es[k]) := by rw [e1, jr_snoc]
  obtain ⟨n, hn⟩ : ∃ n, n = (jr c (es.take k)).length + min m (Fm.recB (putE es[k])).length := ⟨_, rfl⟩
  have hl : (es.take (k + 1)).length = k + 1 := by rw [List.length_take]; omega
  have hbs : t.bs = (jr c (es.take (k + 1))).take n := by
    rw [hb, hjr, hn, List.take_length_add_append]
    congr 1
    by_cases h : m ≤ (Fm.recB (putE es[k])).length
    · rw [Nat.min_eq_left h]
    · rw [Nat.min_eq_right (by omega), List.take_of_length_le (by omega), List.take_length]
  have hnl : n ≤ (jr c (es.take (k + 1))).length := by rw [hjr, List.length_append, hn]; omega
  obtain ⟨K, h1, h2, h3⟩ := whole_ex (rs c (es.take (k + 1))) n
  simp only [rs_len, hl] at h1 h3
  have hto := torn_open1 hr hf (fun e h => he e (List.mem_of_mem_take h)) (by rw [hl]; exact h1) h2 hnl (by rw [hl]; exact h3) hbs hd ha
  have hmin : (conc ((rs c (es.take (k + 1))).take (k + 1))).length ≤ n := by
    rw [rs_take, List.take_take, Nat.min_eq_left (by omega), hn]
    omega
  have hge : k + 1 ≤ K := by
    rcases Nat.lt_or_ge K (k + 1) with h | h
    · exfalso
      rcases h3 with h3 | h3
      · omega
      · have := conc_mono (ls := rs c (es.take (k + 1))) (i := K + 1) (k := k + 1) h
        omega
    · exact h
  refine ⟨K - 1, ?_, by omega⟩
  rw [hto, if_neg (by omega), List.take_take, Nat.min_eq_left (by omega)]
theorem journalFlight_ok {w : AV} {L : List Int} {wr kp : Int} (hw : SL H0 1 w (u64s L)) (hL : ∀ x ∈ L, U64 x) (hwr : 0 ≤ wr ∧ wr < 256) (hkp : 0 ≤ kp ∧ kp < 256) (hk : 20000 < k) : Hx (callA ap k (.func 5 [] []) [w, .int .u8 wr, .int .u8 kp] 0 H0) fun r => r.1 = .bool true := by
  obtain ⟨k, rfl⟩ : ∃ k', k = k' + 5001 := ⟨k - 5001, by omega⟩
  rw [hx_go fn5 rfl, b5]
  obtain ⟨wa, wn, wc, ws, rfl, -⟩ := hw.form
  have nw := fun lo H => @Tp.new_ok (k + 4999) lo H 100000
  rw [show min (max (100000 : Int) 0) 1048576 = 100000 by omega] at nw
  simp [f5]
  refine Hx.mapp (known_ok (by omega)) ?_
  rintro ⟨r, H1⟩ ⟨er, c1⟩
  simp only at er c1
  subst er
  simp
  refine Hx.mapp (of_ok (hw.keep c1) hL) ?_
  rintro ⟨r, H2⟩ ⟨er, dk, c2⟩
  simp only at er dk c2
  subst er
  have dk2l := dk.lt
  simp
  refine Hx.mapp (config_ok (k := k + 4980) dk (by omega)) ?_
  rintro ⟨r, H3⟩ ⟨cv, cf, er, mv, hr, hf, dk3, c3, fv⟩
  simp only at er mv dk3 c3 fv
  subst er
  obtain ⟨va, vc, vs, rfl⟩ := SI.form (l := cf.ins) mv.sl
  obtain ⟨G4, e4⟩ : ∃ G4, G4 = H3 ++ [.cells (cf.cs (.slice va cf.ins.length vc vs)) .rw] := ⟨_, rfl⟩
  have c4 : Chg [] H3 G4 := by rw [e4]; exact .app _ _
  have g4 : G4[H3.length]? = some (.cells (cf.cs (.slice va cf.ins.length vc vs)) .rw) := by rw [e4]; simp
  have s4 : SI G4 (.slice va cf.ins.length vc vs) cf.ins := mv.sl.keep c4
  have l01 := c1.1
  have l12 := c2.1
  have l23 := c3.1
  have l34 : G4.length = H3.length + 1 := by rw [e4]; simp
  have key := events_ok (k := k + 4900) (dk3.keep c4) (by omega) s4 (fun h => by have := fv _ h; omega) hr
  simp only [Cf.cs] at e4 key g4
  simp [Cf.cs]
  rw [← e4]
  simp [rowOf_rw g4]
  refine Hx.mapp key ?_
  rintro ⟨ev, H5⟩ ⟨es, me, hes, hel, dk5, c5, fe⟩
  simp only at me dk5 c5 fe
  obtain ⟨ea, ec, ez, rfl⟩ := SE.form (l := es) me.sl
  obtain ⟨A, eA⟩ : ∃ A, A = H5 := ⟨_, rfl⟩
  have cA : Chg [] H5 A := by rw [eA]; exact .refl
  have l45 := c5.1
  have g6 := cA.get (c5.get g4 (by simp; omega)) (by simp)
  have sA : SI A (.slice va cf.ins.length vc vs) cf.ins := (s4.chg c5 (fun i hi h => by simp at h; have := fv i hi; omega)).keep cA
  have eA' : SE A (.slice ea es.length ec ez) es := me.sl.keep cA
  simp
  rw [← eA]
  obtain ⟨B, eB⟩ : ∃ B, B = A ++ [.cells (Tp.tcells (.slice none 0 (some 0) 0) ⟨[], 100000, false, false, 0, 0⟩) .rw] := ⟨_, rfl⟩
  have cB : Chg [] A B := by rw [eB]; exact .app _ _
  have oB : Own A B A.length t0 := by rw [eB]; exact ⟨⟨_, at_t0, by simp⟩, .app _ _, Nat.le_refl _⟩
  simp [nw]
  rw [← eB]
  have key := own_start (k := k + 5000) oB (sA.keep cB) hr hf (by omega)
  simp only [Cf.cs] at key
  simp [eqV, rowOf_rw (cB.get g6 (by simp))]
  refine Hx.mapp key ?_
  rintro ⟨r, B1⟩ ⟨er, o1⟩
  simp only at er o1
  subst er
  obtain ⟨v1, hv1, fv1⟩ := o1.ex
  obtain ⟨W, hW, hW16⟩ : ∃ W : Nat, IntKind.i64.wrap (wr.tmod 16) = W ∧ W < 16 := by
    have h1 : wr.tmod 16 = wr % 16 := Int.tmod_eq_emod_of_nonneg hwr.1
    rw [h1, wrap_i64 (by omega) (by omega)]
    exact ⟨(wr % 16).toNat, by omega, by omega⟩
  have wk : IntKind.i64.wrap kp = kp := wrap_i64 (by omega) (by omega)
  have key := Tp.arm_ok (k := k + 4999) hv1 (w := (W : Int)) (x := kp) (by omega)
  have harm : armT (tj cf []) W kp = ta cf [] W kp := by
    unfold armT ta
    rw [if_neg (by simp [tj, t0])]
    simp
  rw [harm] at key
  have step : ∀ {H H' : AH} {v : AV} {t' : TS}, (∀ b ∈ blk v, A.length ≤ b) → Chg [] A H → Step false H A.length v t' H' → ∃ v', At false H' A.length v' t' ∧ (∀ b ∈ blk v', A.length ≤ b) ∧ Chg [] A H' := by
    rintro H H' v t' fv cA ⟨v', a1, a2, a3⟩
    have := cA.1
    exact ⟨v', a1, fun b hb => (a3 b hb).elim (fv b) (fun h => by omega), cA.trans a2 (fun b hb => .inr (by
      rcases List.mem_cons.1 hb with h | h
      · omega
      · exact fv b h))⟩
  simp [hW, wk]
  refine Hx.mapp key ?_
  rintro ⟨r, B2⟩ ⟨er, st2⟩
  simp only at er st2
  subst er
  obtain ⟨v2, hv2, fv2, cA2⟩ := step fv1 o1.chg st2
  obtain ⟨K, hK⟩ : ∃ K, K = min W es.length := ⟨_, rfl⟩
  simp
  refine hx_up (fun i st => ∃ B' v', st = ⟨sp 94 [(9, .slice ea es.length ec ez), (10, .ptr (some (A.length, 0))), (11, .int .i64 i)], B', []⟩ ∧ At false B' A.length v' (ta cf (es.take i) ((W : Int) - i) kp) ∧ (∀ b ∈ blk v', A.length ≤ b) ∧ Chg [] A B') K ?_ ?_ (by omega)
    ⟨B2, v2, by simp [maskS], by simpa using hv2, fv2, cA2⟩
  · rintro i st hi ⟨B', v', rfl, hv', fv', cB'⟩
    have hil : i < es.length := by omega
    have hi' : (i : Int) < es.length := by omega
    have w1 : IntKind.i64.wrap ((i : Int) + 1) = (i : Int) + 1 := wrap_i64 (by omega) (by omega)
    obtain ⟨b, o, c', rr, e', g1, g2, g3, -⟩ := SE.get (eA'.keep cB') (gete hil)
    cases e'
    have key := add_ok (k := k + 5000) (e := es[i]) hv' (by omega)
    rw [ta_add hr (hes _ (List.getElem_mem hil)) (by simp; omega) (by omega), ← List.take_succ_eq_append_getElem hil] at key
    simp only [E8.cs] at g3 key
    simp [hil, hi', g1, g2, g3]
    refine Hx.mapp key ?_
    rintro ⟨r, B3⟩ ⟨er, st3⟩
    simp only at er st3
    subst er
    obtain ⟨v3, hv3, fv3, cA3⟩ := step fv' cB' st3
    simp [w1, maskS]
    refine ⟨v3, ?_, fv3, cA3⟩
    rw [show (W : Int) - (i + 1) = (W : Int) - i - 1 by omega]
    exact hv3
  · rintro st ⟨B', v', rfl, hv', fv', cB'⟩
    have hjl := tj_len (c := cf) (es := es.take K) hr
    have hlt : (es.take K).length = K := by rw [List.length_take]; omega
    rw [hlt] at hjl
    by_cases hKl : K = es.length
    focus
      have hi' : ¬ (K : Int) < es.length := by omega
      obtain ⟨t3, B3, v3, hB3, hv3, fv3, cA3, hdn, hby, hln, L, hL1, hL2⟩ : ∃ t3 B3 v3, B' = B3 ∧ At false B3 A.length v3 t3 ∧ (∀ b ∈ blk v3, A.length ≤ b) ∧ Chg [] A B3 ∧ t3.down = decide (K < es.length) ∧ Byt t3.bs ∧ t3.bs.length ≤ 3000 ∧
          ∃ L, (openT (wakeT t3)).1 = (0, cf, es.take L) ∧ (L = K ∨ (L = K + 1 ∧ K < es.length)) :=
        ⟨ta cf (es.take K) ((W : Int) - K) kp, B', v', rfl, hv', fv', cB', by simp [ta, tj, t0, hKl], tj_byt hr hf (fun e h => hes e (List.mem_of_mem_take h)), by show (tj cf (es.take K)).bs.length ≤ 3000; omega, K, by
          rw [jr_openT (c := cf) (es := es.take K) hr hf (fun e h => hes e (List.mem_of_mem_take h)) rfl rfl], .inl rfl⟩
      simp [hi']
      rw [hB3]
    rotate_left
    focus
      have hKe : K < es.length := by omega
      have hi' : (K : Int) < es.length := by omega
      have hWK : (W : Int) - K = 0 := by omega
      rw [hWK] at hv'
      obtain ⟨b, o, c', rr, e', g1, g2, g3, -⟩ := SE.get (eA'.keep cB') (gete hKe)
      cases e'
      have hrt := hes _ (List.getElem_mem hKe)
      have key := add_ok (k := k + 5000) (e := es[K]) hv' (by omega)
      rw [ta_fall hr hrt (by omega)] at key
      simp only [E8.cs] at g3 key
      simp [hKe, hi', g1, g2, g3]
      refine Hx.mapp key ?_
      rintro ⟨r, B4⟩ ⟨er, st4⟩
      simp only at er st4
      subst er
      obtain ⟨v4, hv4, fv4, cA4⟩ := step fv' cB' st4
      have hpe := putE_len es[K]
      obtain ⟨t3, B3, v3, hB3, hv3, fv3, cA3, hdn, hby, hln, L, hL1, hL2⟩ : ∃ t3 B3 v3, B4 = B3 ∧ At false B3 A.length v3 t3 ∧ (∀ b ∈ blk v3, A.length ≤ b) ∧ Chg [] A B3 ∧ t3.down = decide (K < es.length) ∧ Byt t3.bs ∧ t3.bs.length ≤ 3000 ∧
          ∃ L, (openT (wakeT t3)).1 = (0, cf, es.take L) ∧ (L = K ∨ (L = K + 1 ∧ K < es.length)) := by
        obtain ⟨L, hL1, hL2⟩ := flight_open (t := wakeT { tj cf (es.take K) with bs := jr cf (es.take K) ++ (Fm.recB (putE es[K])).take (Tp.cl kp (Fm.recB (putE es[K])).length), armed := false, down := true, writes := 0, keep := kp }) hr hf hes hKe rfl rfl rfl
        refine ⟨_, B4, v4, rfl, hv4, fv4, cA4, by simp [hKe], Byt.app (tj_byt hr hf (fun e h => hes e (List.mem_of_mem_take h))) ((Fm.recB_byt (putE_byt hrt)).take _), ?_, L, hL1, hL2.imp id fun h => ⟨h, hKe⟩⟩
        have : (jr cf (es.take K)).length ≤ 316 + 57 * K := hjl
        rw [List.length_append, List.length_take, Fm.recB_len]
        omega
      simp
      rw [hB3]
    all_goals
      simp [Tp.down_ok hv3, hdn]
      refine Hx.mapp (Tp.wake_ok hv3) ?_
      rintro ⟨r, B5⟩ ⟨er, st5⟩
      simp only at er st5
      subst er
      obtain ⟨v5, hv5, fv5, cA5⟩ := step fv3 cA3 st5
      simp
      refine Hx.mapp (open_ok (k := k + 5000) hv5 hby (by show t3.bs.length + 900 < k + 5000; omega)) ?_
      rintro ⟨r, B6⟩ ⟨op, -⟩
      simp only at op
      rcases ho : openT (wakeT t3) with ⟨⟨er, cc, ee⟩, t5⟩
      rw [ho] at op hL1
      cases hL1
      obtain ⟨x7, w7, er, sx, sw, fx, fw, st6⟩ := op.step
      simp only at er sx sw
      obtain ⟨eL, heL⟩ : ∃ eL, es.take L = eL := ⟨_, rfl⟩
      have hLl : eL.length ≤ 11 := by rw [← heL, List.length_take]; omega
      have hLm : eL.length = min L es.length := by rw [← heL, List.length_take]
      rw [heL] at sw
      subst er
      obtain ⟨v6, hv6, fv6, cA6⟩ := step fv5 cA5 st6
      obtain ⟨a7, d7, s7, rfl⟩ := SI.form sx
      obtain ⟨a8, d8, s8, rfl⟩ := SE.form sw
      obtain ⟨G, eG⟩ : ∃ G, G = B6 ++ [.cells (cf.cs (.slice a7 cf.ins.length d7 s7)) .rw] := ⟨_, rfl⟩
      have cG : Chg [] B6 G := by rw [eG]; exact .app _ _
      have swG := sw.keep cG
      have eAG := eA'.keep (cA6.tr cG)
      obtain ⟨c1', hcut1, hcut2, -, -⟩ := eAG.cut (low := none) (high := some (.int .i64 (K : Int))) (by omega) (lo := 0) (hi := K) (by omega) (by rw [evsC_len]; omega) rfl (fun _ _ => rfl)
      rw [Nat.zero_mul, List.drop_zero, evs_take] at hcut2
      have ev1 := events_eq (k := k + 5000) swG hcut2 (by omega) (by rw [List.length_take]; omega) (by omega)
      by_cases hKe : K < es.length
      · have hKi : (K : Int) < es.length := by omega
        rcases hL2 with hL2 | ⟨hL2, -⟩
        · have hq : eL = es.take K := by rw [← heL, hL2]
          rw [decide_eq_true hq] at ev1
          simp only [Cf.cs] at eG
          simp [Cf.cs, hKe, hKi, eqV]
          rw [← eG]
          simp [hcut1]
          refine Hx.mapp ev1 ?_
          rintro ⟨r, D1⟩ ⟨er, cD1⟩
          simp only at er cD1
          subst er
          simp
        · have hne : ¬ eL = es.take K := fun h => by
            have := congrArg List.length h
            rw [hLm, List.length_take] at this
            omega
          have w1 : IntKind.i64.wrap ((K : Int) + 1) = (K : Int) + 1 := wrap_i64 (by omega) (by omega)
          simp only [Cf.cs] at eG
          rw [decide_eq_false hne] at ev1
          simp [Cf.cs, hKe, hKi, eqV]
          rw [← eG]
          simp [hcut1]
          refine Hx.mapp ev1 ?_
          rintro ⟨r, D1⟩ ⟨er, cD1⟩
          simp only at er cD1
          subst er
          obtain ⟨c2', hcut3, hcut4, -, -⟩ := (eAG.keep cD1).cut (low := none) (high := some (.int .i64 ((K : Int) + 1))) (by omega) (lo := 0) (hi := K + 1) (by omega) (by rw [evsC_len]; omega) rfl (fun _ _ => by show (K : Int) + 1 = ((K + 1 : Nat) : Int); omega)
          rw [Nat.zero_mul, List.drop_zero, evs_take] at hcut4
          have ev2 := events_eq (k := k + 5000) (swG.keep cD1) hcut4 (by omega) (by rw [List.length_take]; omega) (by omega)
          rw [decide_eq_true (show eL = es.take (K + 1) by rw [← heL, hL2])] at ev2
          simp [w1, hcut3]
          refine Hx.mapp ev2 ?_
          rintro ⟨r, D2⟩ ⟨er, cD2⟩
          simp only at er cD2
          subst er
          simp
      · have hKi : ¬ (K : Int) < es.length := by omega
        have hq : eL = es.take K := by rw [← heL, show L = K by omega]
        rw [decide_eq_true hq] at ev1
        simp only [Cf.cs] at eG
        simp [Cf.cs, hKe, hKi, eqV]
        rw [← eG]
        simp [hcut1]
        refine Hx.mapp ev1 ?_
        rintro ⟨r, D1⟩ ⟨er, cD1⟩
        simp only at er cD1
        subst er
        simp
theorem journalFlight_main (H : AH) (ass : List (List AV)) (hl : ass.length = [22, 5, 5].length) (ha : ∀ (i : Nat) t al, [22, 5, 5][i]? = some t → ass[i]? = some al → AR ap 6 H t al) :
    Hx (callA ap 30000 (.func 5 [] []) (List.zipWith (argA ap) [22, 5, 5] ass) 0 H) fun r => r.1 = .bool true := by
  obtain ⟨K, hK⟩ : ∃ K, K = 30000 := ⟨_, rfl⟩
  rw [← hK]
  match ass, hl with
  | [a0, a1, a2], _ =>
    obtain ⟨w, L, rfl, hw, hL⟩ := ar_u64s (ha 0 22 a0 rfl rfl) ty22 rfl ty70 rfl rfl
    obtain ⟨z, rfl, wz⟩ := ar_int (ha 1 5 a1 rfl rfl) ty5 rfl
    obtain ⟨y, rfl, wy⟩ := ar_int (ha 2 5 a2 rfl rfl) ty5 rfl
    simp only [List.zipWith_cons_cons, List.zipWith_nil_right, argA_one ty22 rfl, argA_one ty5 rfl]
    exact journalFlight_ok hw hL (wf_u8 wz) (wf_u8 wy) (by omega)
end
end Go.Proofs.Ytcmpldjoggeceaa.T.Jn
end
