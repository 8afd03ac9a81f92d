import Derived.Test.YtpinfljbccjbkaaGL104
section
/-! QueueTakes. -/
set_option linter.unusedVariables false
set_option linter.unusedSimpArgs false
set_option maxHeartbeats 4000000
set_option maxRecDepth 100000
namespace Go.Proofs.Ytpinfljbccjbkaa.T.Qu
open Go Go.Ab
def oT : Od := ⟨1000, 3, 0, 2, 7, 7⟩
theorem csT : oT.cs = [.int .i64 1000, .int .i64 3, .int .i64 0, .int .i64 2, .int .i64 7, .int .i64 7] := rfl
theorem rightT : rightO oT = true := by decide
theorem takes_add {l : List Od} {id : Int} (h : Drawn l id) (hl : l.length ≤ 32) : addB l oT = if l.length = 32 then ([], 5) else (l ++ [oT], 0) := by
  have hb : addBad l oT = false := by
    rw [addBad, h.right hl, rightT]
    by_cases h0 : 0 < l.length
    · rw [getd (by omega : l.length - 1 < l.length)]
      have h1 := h.ok _ (List.getElem_mem (by omega : l.length - 1 < l.length))
      have h2 := h.top
      have : ¬ oT.id ≤ l[l.length - 1].id := by show ¬ (1000 : Int) ≤ _; omega
      simp [this]
    · simp [h0]
  rw [addB, hb]
  simp
theorem takes_cancel {l : List Od} {id : Int} (h : Drawn l id) (hl : l.length ≤ 32) (h32 : l.length ≠ 32) : cancelB (l ++ [oT]) 3 1000 = (l, 0) := by
  have h2 := h.top
  have hr : rightL (l ++ [oT]) = true := by
    refine rightL_of (fun x hx => ?_) (List.pairwise_append.2 ⟨h.up, by simp, fun a ha b hb => ?_⟩) (by simp; omega)
    · rcases List.mem_append.1 hx with hx | hx
      · exact (rightL_mem (h.right hl)).1 x hx
      · simp at hx; subst hx; exact rightT
    · simp at hb; subst hb
      have := h.ok a ha
      show a.id < 1000
      omega
  rw [← cancel_same hr]
  have e1 : l.filter (fun x => !(decide (x.id = 1000) && decide (x.acc = 3))) = l := List.filter_eq_self.2 fun x hx => by
    have := h.ok x hx
    have : ¬ x.id = 1000 := by omega
    simp [this]
  rw [List.filter_append, e1, List.filter_cons_of_neg (by decide), List.filter_nil, List.append_nil, if_neg (by simp)]
section
variable {k p n : Nat} {H : AH}
theorem queueTakes_ok {v va : AV} {L accs : List Int} (h : SL H 1 v (u64s L)) (hL : ∀ x ∈ L, U64 x) (ha : SL H 1 va (ints accs)) (hk : 1000 < k) : Hx (callA ap k (.func 5 [] []) [v, va] 0 H) fun r => r.1 = .bool true := by
  obtain ⟨k, rfl⟩ : ∃ k', k = k' + 9 := ⟨k - 9, by omega⟩
  rw [hx_go fn5 rfl, b5]
  obtain ⟨va1, vc, vs, rfl⟩ := h.form1
  obtain ⟨a', c', s', rfl⟩ := ha.form1
  rw [ints_len] at ha ⊢
  simp
  refine Hx.mapp (known_ok (k := k + 8) (by omega)) ?_
  rintro ⟨r, H0⟩ ⟨e, c0⟩
  simp only at e c0
  subst e
  by_cases h30 : 30 < accs.length
  · have h30' : 30 < (accs.length : Int) := by omega
    simp [h30, h30']
  have h30' : ¬ 30 < (accs.length : Int) := by omega
  simp [h30, h30']
  have h' := h.keep c0
  rw [u64s_len] at h'
  refine Hx.mapp (of_ok (k := k + 7) h' hL) ?_
  rintro ⟨r, H1⟩ ⟨e, d1, c1⟩
  simp only at e d1 c1
  subst e
  obtain ⟨p, hp⟩ : ∃ p, p = H0.length := ⟨_, rfl⟩
  rw [← hp] at d1 ⊢
  simp
  refine Hx.mapp (norders_ok (k := k + 8) (most := 32) d1 (by omega) (by omega) (by omega)) ?_
  rintro ⟨v0, H2⟩ ⟨os, id', hv, hdr, hlen, d2, c2, hb⟩
  simp only at hv d2 c2 hb
  obtain ⟨a0, c0', s0, e0⟩ := SO.form hv.sl
  subst e0
  have haH2 : SL H2 1 (.slice a' accs.length c' s') (ints accs) := SL.chg ((ha.keep c0).keep c1) c2 (fun i hi => by have := ha.lt i hi; have := c0.1; simp; omega)
  have hrt := hdr.right hlen
  obtain ⟨G, eG⟩ : ∃ G, G = H2 ++ [.cells oT.cs .rw] := ⟨_, rfl⟩
  have cG : Chg [] H2 G := by rw [eG]; exact .app _ _
  have rG : rowOf G H2.length = some oT.cs := by rw [eG]; simp [csT]
  have hosG := hv.sl.keep cG
  have hm1 := add_ok (k := k + 8) (o := oT) hosG (by omega) (by omega)
  simp only [csT, tag_eq] at eG rG hm1
  simp
  rw [← eG]
  refine Hx.mapp hm1 ?_
  rintro ⟨r, H3⟩ ⟨v3, e, t3, c3⟩
  simp only at e t3 c3
  subst e
  obtain ⟨x3, y3, z3, rfl⟩ := SO.form t3
  obtain ⟨P, hP⟩ : ∃ P : Od → Bool, P = fun x => !accs.contains x.acc := ⟨_, rfl⟩
  have hadd := takes_add hdr hlen
  by_cases h32 : os.length = 32
  · rw [if_pos h32] at hadd
    rw [hadd] at t3 ⊢
    have h32' : (os.length : Int) = 32 := by omega
    simp [h32']
    refine Hx.mapp (drop_ok (k := k + 8) (accs := accs) (hosG.keep c3) ((haH2.keep cG).keep c3) (by omega) (by omega) (by omega)) ?_
    rintro ⟨r, H5⟩ ⟨t5, c5⟩
    simp only at t5 c5
    have hD : dropB os accs = os.filter P := by rw [dropB, hrt, hP]; rfl
    rw [hD] at t5
    obtain ⟨F, eF⟩ : ∃ F, F = os.filter P := ⟨_, rfl⟩
    rw [← eF] at t5
    have hFl : F.length ≤ 32 := by rw [eF]; exact Nat.le_trans (List.length_filter_le _ _) hlen
    obtain ⟨x5, y5, z5, rfl⟩ := SO.form t5
    have hos5 := (hosG.keep c3).keep c5
    have ha5 := ((haH2.keep cG).keep c3).keep c5
    simp
    refine hx_up (fun i st => ∃ H', st = ⟨sp 105 [(1, .slice a' accs.length c' s'), (6, .slice a0 os.length c0' s0), (12, .slice x5 F.length y5 z5), (13, .int .i64 ((os.take i).filter P).length), (14, .int .i64 i)], H', []⟩ ∧ Chg [] H5 H') os.length ?_ ?_ (by omega) ⟨H5, by simp [maskS], .refl⟩
    · rintro i st hi ⟨H6, rfl, c6⟩
      have hi' : (i : Int) < os.length := by omega
      have wi : IntKind.i64.wrap ((i : Int) + 1) = (i : Int) + 1 := wrap_i64 (by omega) (by omega)
      obtain ⟨x, hxx⟩ : ∃ x, x = os[i] := ⟨_, rfl⟩
      have hfil := filter_take (P := P) hi
      rw [← hxx] at hfil
      obtain ⟨q, eq⟩ : ∃ q, q = ((os.take i).filter P).length := ⟨_, rfl⟩
      have hget : P x = true → F[q]? = some x := fun hp => by
        have hsp : os = os.take i ++ os[i] :: os.drop (i + 1) := by rw [← List.drop_eq_getElem_cons hi, List.take_append_drop]
        have hF : F = (os.take i).filter P ++ os[i] :: (os.drop (i + 1)).filter P := by
          rw [eF]
          conv => lhs; rw [hsp]
          rw [List.filter_append, List.filter_cons_of_pos (by rw [← hxx]; exact hp)]
        rw [hF, eq, hxx, List.getElem?_append_right (Nat.le_refl _)]
        simp
      have hq32 : q ≤ 32 := by rw [eq]; exact Nat.le_trans (List.length_filter_le _ _) (by simp; omega)
      rw [← eq]
      simp [hi', hi]
      refine hx_up (fun j st => ∃ H', st = ⟨sp 105 [(1, .slice a' accs.length c' s'), (6, .slice a0 os.length c0' s0), (12, .slice x5 F.length y5 z5), (13, .int .i64 q), (14, .int .i64 i), (15, .bool (cnB accs x.acc j)), (16, .int .i64 j)], H', []⟩ ∧ Chg [] H6 H') accs.length ?_ ?_ (by omega) ⟨H6, by simp [maskS, cnB_zero], .refl⟩
      · rintro j st hj ⟨H7, rfl, c7⟩
        have hj' : (j : Int) < accs.length := by omega
        have wj : IntKind.i64.wrap ((j : Int) + 1) = (j : Int) + 1 := wrap_i64 (by omega) (by omega)
        simp [hj', hj]
        refine hx_drawn dc5_24 fun X cX _ _ => ?_
        have c8 := c7.tr cX
        obtain ⟨b, ob, c'', r, e, g0, gg⟩ := SO.all (hos5.keep (c6.tr c8)) (by intro h; simp [h] at hi)
        obtain ⟨z1, z2, z3, z4⟩ := AV.slice.inj e
        subst z1 z3 z4
        have f1 := (gg i hi).2.2 1 (by omega)
        rw [← hxx] at f1
        simp only [Od.cs, List.getElem?_cons_zero, List.getElem?_cons_succ] at f1
        obtain ⟨b1, o1, c1', r1, e1, k0, k1⟩ := (ha5.keep (c6.tr c8)).get1 (i := j) (by simpa using hj)
        obtain ⟨z1, z2, z3, z4⟩ := AV.slice.inj e1
        subst z1 z3 z4
        have hlx : (ints accs)[j]? = some (.int .i64 accs[j]) := by simp [ints, hj]
        rw [hlx] at k1
        have htk := cnB_succ (x := x.acc) hj
        generalize accs[j] = y at *
        cases hc : cnB accs x.acc j with
        | true =>
          rw [hc] at htk
          simp only [Bool.true_or] at htk
          simp [d5_24, maskS, wj]
          exact ⟨X, by rw [htk]; simp, c8⟩
        | false =>
          rw [hc] at htk
          simp only [Bool.false_or] at htk
          simp [d5_24, hj', hj, hi', hi, k0, k1, g0, f1, maskS, wj]
          exact ⟨X, by rw [htk]; simp, c8⟩
      · rintro st ⟨H7, rfl, c7⟩
        rw [cnB_all]
        have hPx : P x = !accs.contains x.acc := by rw [hP]
        cases hc : accs.contains x.acc with
        | true =>
          rw [hc] at hPx
          rw [hPx] at hfil
          simp only [Bool.not_true, Bool.false_eq_true, if_false, List.append_nil] at hfil
          simp [maskS, wi]
          exact ⟨H7, ⟨by rw [hfil, ← eq], rfl⟩, c6.tr c7⟩
        | false =>
          rw [hc] at hPx
          rw [hPx] at hfil
          simp only [Bool.not_false, if_true] at hfil
          have hg := hget hPx
          have hqF : q < F.length := (List.getElem?_eq_some_iff.1 hg).1
          have hqF' : (q : Int) < F.length := by omega
          have hnq : ¬ (F.length : Int) ≤ q := by omega
          have hnq' : ¬ F.length ≤ q := by omega
          have wq : IntKind.i64.wrap ((q : Int) + 1) = (q : Int) + 1 := wrap_i64 (by omega) (by omega)
          simp
          refine hx_drawn dc5_26 fun X cX _ _ => ?_
          have c8 := c7.tr cX
          obtain ⟨b, ob, c'', r, e, g0, gg⟩ := SO.all (hos5.keep (c6.tr c8)) (by intro h; simp [h] at hi)
          obtain ⟨z1, z2, z3, z4⟩ := AV.slice.inj e
          subst z1 z3 z4
          obtain ⟨g1, g2, -⟩ := gg i hi
          obtain ⟨b1, ob1, c1', r1, e1, k0, kk⟩ := SO.all (t5.keep (c6.tr c8)) (by intro h; simp [h] at hqF)
          obtain ⟨z1, z2, z3, z4⟩ := AV.slice.inj e1
          subst z1 z3 z4
          obtain ⟨k1, k2, -⟩ := kk q hqF
          have hFq : F[q] = x := by
            rw [List.getElem?_eq_getElem hqF] at hg
            exact Option.some.inj hg
          rw [hFq] at k2
          rw [← hxx] at g2
          have heq := @eqOd x x
          simp only [Od.cs] at g2 k2
          simp [d5_26, hi', hi, hqF, hqF', hnq, hnq', g0, g1, g2, k0, k1, k2, eqV, heq, maskS, wi, wq]
          exact ⟨X, ⟨by rw [hfil]; simp [← eq], rfl⟩, c6.tr c8⟩
    · rintro st ⟨H6, rfl, c6⟩
      rw [List.take_length, ← eF]
      simp
  · rw [if_neg h32] at hadd
    rw [hadd] at t3 ⊢
    have h32' : ¬ (os.length : Int) = 32 := by omega
    have t3' : SO H3 (.slice x3 (os ++ [oT]).length y3 z3) (os ++ [oT]) := t3
    have hm2 := cancel_ok (k := k + 8) (acc := 3) (id := 1000) t3' (by simp; omega) (by simp; omega)
    rw [takes_cancel hdr hlen h32] at hm2
    simp only [List.length_append, List.length_cons, List.length_nil, Nat.zero_add, tag_eq] at hm2
    simp [h32']
    refine Hx.mapp hm2 ?_
    rintro ⟨r, H4⟩ ⟨v4, e, t4, c4⟩
    simp only at e t4 c4
    subst e
    obtain ⟨x4, y4, z4, rfl⟩ := SO.form t4
    have hoe := orders_eq (k := k + 8) t4 (hosG.keep (c3.tr c4)) (by omega) (by omega) (by omega)
    simp [hoe]
    refine Hx.mapp (drop_ok (k := k + 8) (accs := accs) (hosG.keep (c3.tr c4)) ((haH2.keep cG).keep (c3.tr c4)) (by omega) (by omega) (by omega)) ?_
    rintro ⟨r, H5⟩ ⟨t5, c5⟩
    simp only at t5 c5
    have hD : dropB os accs = os.filter P := by rw [dropB, hrt, hP]; rfl
    rw [hD] at t5
    obtain ⟨F, eF⟩ : ∃ F, F = os.filter P := ⟨_, rfl⟩
    rw [← eF] at t5
    have hFl : F.length ≤ 32 := by rw [eF]; exact Nat.le_trans (List.length_filter_le _ _) hlen
    obtain ⟨x5, y5, z5, rfl⟩ := SO.form t5
    have hos5 := (hosG.keep (c3.tr c4)).keep c5
    have ha5 := ((haH2.keep cG).keep (c3.tr c4)).keep c5
    simp
    refine hx_up (fun i st => ∃ H', st = ⟨sp 105 [(1, .slice a' accs.length c' s'), (6, .slice a0 os.length c0' s0), (12, .slice x5 F.length y5 z5), (13, .int .i64 ((os.take i).filter P).length), (14, .int .i64 i)], H', []⟩ ∧ Chg [] H5 H') os.length ?_ ?_ (by omega) ⟨H5, by simp [maskS], .refl⟩
    · rintro i st hi ⟨H6, rfl, c6⟩
      have hi' : (i : Int) < os.length := by omega
      have wi : IntKind.i64.wrap ((i : Int) + 1) = (i : Int) + 1 := wrap_i64 (by omega) (by omega)
      obtain ⟨x, hxx⟩ : ∃ x, x = os[i] := ⟨_, rfl⟩
      have hfil := filter_take (P := P) hi
      rw [← hxx] at hfil
      obtain ⟨q, eq⟩ : ∃ q, q = ((os.take i).filter P).length := ⟨_, rfl⟩
      have hget : P x = true → F[q]? = some x := fun hp => by
        have hsp : os = os.take i ++ os[i] :: os.drop (i + 1) := by rw [← List.drop_eq_getElem_cons hi, List.take_append_drop]
        have hF : F = (os.take i).filter P ++ os[i] :: (os.drop (i + 1)).filter P := by
          rw [eF]
          conv => lhs; rw [hsp]
          rw [List.filter_append, List.filter_cons_of_pos (by rw [← hxx]; exact hp)]
        rw [hF, eq, hxx, List.getElem?_append_right (Nat.le_refl _)]
        simp
      have hq32 : q ≤ 32 := by rw [eq]; exact Nat.le_trans (List.length_filter_le _ _) (by simp; omega)
      rw [← eq]
      simp [hi', hi]
      refine hx_up (fun j st => ∃ H', st = ⟨sp 105 [(1, .slice a' accs.length c' s'), (6, .slice a0 os.length c0' s0), (12, .slice x5 F.length y5 z5), (13, .int .i64 q), (14, .int .i64 i), (15, .bool (cnB accs x.acc j)), (16, .int .i64 j)], H', []⟩ ∧ Chg [] H6 H') accs.length ?_ ?_ (by omega) ⟨H6, by simp [maskS, cnB_zero], .refl⟩
      · rintro j st hj ⟨H7, rfl, c7⟩
        have hj' : (j : Int) < accs.length := by omega
        have wj : IntKind.i64.wrap ((j : Int) + 1) = (j : Int) + 1 := wrap_i64 (by omega) (by omega)
        simp [hj', hj]
        refine hx_drawn dc5_24 fun X cX _ _ => ?_
        have c8 := c7.tr cX
        obtain ⟨b, ob, c'', r, e, g0, gg⟩ := SO.all (hos5.keep (c6.tr c8)) (by intro h; simp [h] at hi)
        obtain ⟨z1, z2, z3, z4⟩ := AV.slice.inj e
        subst z1 z3 z4
        have f1 := (gg i hi).2.2 1 (by omega)
        rw [← hxx] at f1
        simp only [Od.cs, List.getElem?_cons_zero, List.getElem?_cons_succ] at f1
        obtain ⟨b1, o1, c1', r1, e1, k0, k1⟩ := (ha5.keep (c6.tr c8)).get1 (i := j) (by simpa using hj)
        obtain ⟨z1, z2, z3, z4⟩ := AV.slice.inj e1
        subst z1 z3 z4
        have hlx : (ints accs)[j]? = some (.int .i64 accs[j]) := by simp [ints, hj]
        rw [hlx] at k1
        have htk := cnB_succ (x := x.acc) hj
        generalize accs[j] = y at *
        cases hc : cnB accs x.acc j with
        | true =>
          rw [hc] at htk
          simp only [Bool.true_or] at htk
          simp [d5_24, maskS, wj]
          exact ⟨X, by rw [htk]; simp, c8⟩
        | false =>
          rw [hc] at htk
          simp only [Bool.false_or] at htk
          simp [d5_24, hj', hj, hi', hi, k0, k1, g0, f1, maskS, wj]
          exact ⟨X, by rw [htk]; simp, c8⟩
      · rintro st ⟨H7, rfl, c7⟩
        rw [cnB_all]
        have hPx : P x = !accs.contains x.acc := by rw [hP]
        cases hc : accs.contains x.acc with
        | true =>
          rw [hc] at hPx
          rw [hPx] at hfil
          simp only [Bool.not_true, Bool.false_eq_true, if_false, List.append_nil] at hfil
          simp [maskS, wi]
          exact ⟨H7, ⟨by rw [hfil, ← eq], rfl⟩, c6.tr c7⟩
        | false =>
          rw [hc] at hPx
          rw [hPx] at hfil
          simp only [Bool.not_false, if_true] at hfil
          have hg := hget hPx
          have hqF : q < F.length := (List.getElem?_eq_some_iff.1 hg).1
          have hqF' : (q : Int) < F.length := by omega
          have hnq : ¬ (F.length : Int) ≤ q := by omega
          have hnq' : ¬ F.length ≤ q := by omega
          have wq : IntKind.i64.wrap ((q : Int) + 1) = (q : Int) + 1 := wrap_i64 (by omega) (by omega)
          simp
          refine hx_drawn dc5_26 fun X cX _ _ => ?_
          have c8 := c7.tr cX
          obtain ⟨b, ob, c'', r, e, g0, gg⟩ := SO.all (hos5.keep (c6.tr c8)) (by intro h; simp [h] at hi)
          obtain ⟨z1, z2, z3, z4⟩ := AV.slice.inj e
          subst z1 z3 z4
          obtain ⟨g1, g2, -⟩ := gg i hi
          obtain ⟨b1, ob1, c1', r1, e1, k0, kk⟩ := SO.all (t5.keep (c6.tr c8)) (by intro h; simp [h] at hqF)
          obtain ⟨z1, z2, z3, z4⟩ := AV.slice.inj e1
          subst z1 z3 z4
          obtain ⟨k1, k2, -⟩ := kk q hqF
          have hFq : F[q] = x := by
            rw [List.getElem?_eq_getElem hqF] at hg
            exact Option.some.inj hg
          rw [hFq] at k2
          rw [← hxx] at g2
          have heq := @eqOd x x
          simp only [Od.cs] at g2 k2
          simp [d5_26, hi', hi, hqF, hqF', hnq, hnq', g0, g1, g2, k0, k1, k2, eqV, heq, maskS, wi, wq]
          exact ⟨X, ⟨by rw [hfil]; simp [← eq], rfl⟩, c6.tr c8⟩
    · rintro st ⟨H6, rfl, c6⟩
      rw [List.take_length, ← eF]
      simp
theorem ar_ints {m : Nat} {H : AH} {t e : Nat} {ti te : TI} {al : List AV} (h : AR ap m H t al) (ht : ap.ty t = some ti) (htd : ti.td = .slice e) (he : ap.ty e = some te) (hed : te.td = .int .i64) (hes : te.sz = 1) :
    ∃ v L, al = [v] ∧ SL H 1 v (ints L) := by
  obtain ⟨v, es, m2, rfl, hs, hx⟩ := ar_slice h ht htd he
  rw [hes] at hs
  obtain ⟨l, hl, hq⟩ := list_choose (R := fun (x : List AV) (a : Int) => x = [.int .i64 a]) es (fun x hm => by
    obtain ⟨z, rfl, w⟩ := ar_int (hx x hm).2 he hed
    exact ⟨z, rfl⟩)
  have hes : es.flatten = ints l := by
    have : es = l.map fun a => [AV.int .i64 a] := by
      refine List.ext_getElem? fun i => ?_
      rw [List.getElem?_map]
      by_cases hi : i < es.length
      · have := hq i es[i] l[i] (List.getElem?_eq_getElem hi) (List.getElem?_eq_getElem (by omega))
        rw [List.getElem?_eq_getElem hi, List.getElem?_eq_getElem (by omega), this]
        rfl
      · rw [List.getElem?_eq_none (by omega), List.getElem?_eq_none (by omega)]
        rfl
    rw [this]
    unfold ints
    clear hs hq hl hx this
    induction l with
    | nil => rfl
    | cons x l ih => simp only [List.map_cons, List.flatten_cons, List.singleton_append]; rw [ih]
  exact ⟨v, l, rfl, by rw [hes] at hs; exact hs⟩
theorem queueTakes_main (H : AH) (ass : List (List AV)) (hl : ass.length = [22, 32].length) (ha : ∀ (i : Nat) t al, [22, 32][i]? = some t → ass[i]? = some al → AR ap 6 H t al) :
    Hx (callA ap 2000 (.func 5 [] []) (List.zipWith (argA ap) [22, 32] ass) 0 H) fun r => r.1 = .bool true := by
  match ass, hl with
  | [a0, a1], _ =>
    obtain ⟨v, L, rfl, h0, hL⟩ := ar_u64s (ha 0 22 a0 rfl rfl) ty22 rfl ty58 rfl rfl
    obtain ⟨va, accs, rfl, h1⟩ := ar_ints (ha 1 32 a1 rfl rfl) ty32 rfl ty3 rfl rfl
    simp only [List.zipWith_cons_cons, List.zipWith_nil_right, argA_one ty22 rfl, argA_one ty32 rfl]
    exact queueTakes_ok h0 hL h1 (by omega)
end
end Go.Proofs.Ytpinfljbccjbkaa.T.Qu
end
