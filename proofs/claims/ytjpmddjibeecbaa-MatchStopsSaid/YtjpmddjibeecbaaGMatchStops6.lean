import Derived.Test.YtjpmddjibeecbaaGQ205
section
/-! MatchStops. -/
set_option linter.unusedVariables false
set_option linter.unusedSimpArgs false
set_option maxHeartbeats 4000000
set_option maxRecDepth 100000
namespace Go.Proofs.Ytjpmddjibeecbaa.T.Qu
open Go Go.Ab
/-- A row of one's own, or one of no room at all. -/
inductive Og (H : AH) (sz : Nat) : AV → List AV → Prop
  | mine {v : AV} {cs : List AV} (h : Mine H sz v cs) : Og H sz v cs
  | zero {b : Nat} (h : rowOf H b = some []) : Og H sz (.slice (some (b, 0)) 0 (some 0) sz) []
section
variable {k p n sz : Nat} {H : AH}
theorem Og.chg {v : AV} {cs : List AV} {F : List Nat} {H' : AH} (h : Og H sz v cs) (c : Chg F H H') (hF : ∀ i ∈ blk v, i ∉ F) : Og H' sz v cs := by
  cases h with
  | mine h => exact .mine (h.chg c hF)
  | zero h => exact .zero (c.row h (hF _ (by simp)))
theorem Og.sl {v : AV} {cs : List AV} (h : Og H sz v cs) (hz : 0 < sz) : SL H sz v cs := by
  cases h with
  | mine h => exact h.sl
  | zero h => exact SL.cap0 hz h (by simp)
theorem Og.append {by_ : Nat} {v x : AV} {cs xs : List AV} (h : Og H sz v cs) (hx : SL H sz x xs) (hz : 0 < sz) (hb : 0 < by_) (h1 : xs.all AV.one = true) (hr : (cs.length + xs.length) * by_ ≤ room) :
    Hx (aappend 0 H sz by_ v x) fun r => Og r.2 sz r.1 (cs ++ xs) ∧ Chg (blk v) H r.2 ∧ ∀ i ∈ blk r.1, i ∈ blk v ∨ H.length ≤ i := by
  cases h with
  | mine h => exact (h.append hx hz hb h1 hr).mono fun r ⟨a, b, c⟩ => ⟨.mine a, b, c⟩
  | @zero b h =>
    obtain ⟨a, n, c, s, rfl, hn⟩ := hx.form
    have hf := hx.first hn
    have hs := hx.sz_ok
    have hs0 : szOk sz (.slice (some (b, 0)) 0 (some 0) sz) = true := by simp [szOk]
    rw [aappend_eq, hs, hs0]
    simp only [lenOf, Option.bind_some, hf, h1, Bool.true_eq_false, if_false, aappendC, h, decide_eq_true hz, decide_eq_true hb, Bool.and_self, if_true, tag_eq]
    by_cases h0 : n = 0
    · subst h0
      have : xs = [] := by simpa using hn.symm
      subst this
      simp
      exact ⟨.zero h, .refl⟩
    · have hroom : n * by_ ≤ room := by
        refine Nat.le_trans (Nat.mul_le_mul_right by_ ?_) hr
        rw [← hn]
        exact Nat.le_trans (Nat.le_mul_of_pos_right _ hz) (Nat.le_add_left _ _)
      simp [h0, hroom]
      refine ⟨.mine ?_, Chg.app _ _⟩
      have hk := Mine.new (H := H) (X := H ++ [.cells xs .rw]) (l := xs) (n := n) (c := none) hz rfl (by omega) (by simp)
      rw [hn, List.take_length] at hk
      exact hk
theorem matchStops_ok {v : AV} {L : List Int} (h : SL H 1 v (u64s L)) (hL : ∀ x ∈ L, U64 x) (hk : 1000 < k) : Hx (callA ap k (.func 6 [] []) [v] 0 H) fun r => r.1 = .bool true := by
  obtain ⟨k, rfl⟩ : ∃ k', k = k' + 9 := ⟨k - 9, by omega⟩
  rw [hx_go fn6 rfl, b6]
  have hkn := fun H => knownK (K := k + 8) (H := H) (by omega)
  simp [hkn]
  refine Hx.mapp (of_ok (k := k + 7) h hL) ?_
  rintro ⟨r, H1⟩ ⟨e, d1, c1⟩
  simp only at e d1 c1
  subst e
  obtain ⟨p, hp⟩ : ∃ p, p = H.length := ⟨_, rfl⟩
  rw [← hp] at d1 ⊢
  simp
  refine Hx.mapp (resting_ok (k := k + 8) d1 (by omega) (by omega)) ?_
  rintro ⟨v0, H2⟩ ⟨os', id, hdr, hlen', hv, d2, c2, hb⟩
  simp only at hv d2 c2 hb
  obtain ⟨os, eos⟩ : ∃ os, os = restN os' os'.length := ⟨_, rfl⟩
  rw [← eos] at hv
  obtain ⟨ra, nca, -⟩ := rest_nc hdr (by omega) os'.length (Nat.le_refl _)
  rw [← eos] at ra nca
  have hlen := (rightL_mem ra).2
  have hids : ∀ x ∈ os, x.id ≤ 200 := fun x hx => by
    obtain ⟨m, hm, -, e⟩ := (rest_nc hdr (by omega) os'.length (Nat.le_refl _)).2.2 x (by rw [← eos]; exact hx)
    have := hdr.ok _ (List.getElem_mem hm)
    have := hdr.top
    omega
  obtain ⟨a0, c0, s0, e0⟩ := SO.form hv.sl
  subst e0
  simp
  refine Hx.mapp (n_ok (k := k + 6) d2 (by omega) (m := 6) (by omega) (by omega)) ?_
  rintro ⟨r, H3⟩ ⟨x1, e, hx1, d3, c3⟩
  simp only at e d3 c3
  subst e
  have w1 : IntKind.i64.wrap (1 + x1) = 1 + x1 := wrap_i64 (by omega) (by omega)
  simp [w1]
  refine Hx.mapp (n_ok (k := k + 6) d3 (by omega) (m := 2) (by omega) (by omega)) ?_
  rintro ⟨r, H4⟩ ⟨x2, e, hx2, d4, c4⟩
  simp only at e d4 c4
  subst e
  simp
  refine Hx.mapp (n_ok (k := k + 6) d4 (by omega) (m := 2) (by omega) (by omega)) ?_
  rintro ⟨r, H5⟩ ⟨x3, e, hx3, d5, c5⟩
  simp only at e d5 c5
  subst e
  have w3 : IntKind.i64.wrap (1 + x3) = 1 + x3 := wrap_i64 (by omega) (by omega)
  simp [w3]
  refine Hx.mapp (n_ok (k := k + 6) d5 (by omega) (m := 100) (by omega) (by omega)) ?_
  rintro ⟨r, H6⟩ ⟨x4, e, hx4, d6, c6⟩
  simp only at e d6 c6
  subst e
  have w4 : IntKind.i64.wrap (1 + x4) = 1 + x4 := wrap_i64 (by omega) (by omega)
  simp [w4]
  refine Hx.mapp (n_ok (k := k + 6) d6 (by omega) (m := 20) (by omega) (by omega)) ?_
  rintro ⟨r, H7⟩ ⟨x5, e, hx5, d7, c7⟩
  simp only at e d7 c7
  subst e
  have w5 : IntKind.i64.wrap (90 + x5) = 90 + x5 := wrap_i64 (by omega) (by omega)
  have c27 : Chg [p] H2 H7 := c3.tr' (c4.tr' (c5.tr' (c6.tr' c7)))
  obtain ⟨o, eo⟩ : ∃ o : Od, o = ⟨999, 1 + x1, x2, 1 + x3, 1 + x4, 90 + x5⟩ := ⟨_, rfl⟩
  have hro : rightO o = true := by
    rw [eo]; unfold rightO
    simp only [Bool.and_eq_true, Bool.or_eq_true, decide_eq_true_eq]
    omega
  obtain ⟨G, eG⟩ : ∃ G, G = H7 ++ [.cells o.cs .rw] := ⟨_, rfl⟩
  have cG : Chg [] H7 G := by rw [eG]; exact .app _ _
  have gG : G[H7.length]? = some (.cells o.cs .rw) := by rw [eG]; simp
  have hosG : SO G (.slice a0 os.length c0 s0) os := ((hv.chg c27 (fun i hi => by have := hb i hi; have := d1.lt; simp; omega)).sl).keep cG
  have hm := match_ok (k := k + 8) (o := o) hosG (by omega) (by omega)
  obtain ⟨T, left, m⟩ := matched ra hro
  obtain ⟨B, eB⟩ : ∃ B, B = (os.map (decs T)).filter (fun x => !decide (x.q = 0)) := ⟨_, rfl⟩
  obtain ⟨ts, ets⟩ : ∃ ts, ts = T.map (fun e => trO o e.1 e.2) := ⟨_, rfl⟩
  have em := m.m
  rw [← eB, ← ets] at em
  obtain ⟨rb, ncb, left0, lefto, hfrom, hstop⟩ := stops ra hro em
  have ncb := ncb nca
  rw [em] at hm
  have hBl := (rightL_mem rb).2
  have oq : o.q = 1 + x4 := by rw [eo]
  have eG' := eG
  simp only [Od.cs, eo, tag_eq] at eG hm
  simp [w5]
  rw [← eG]
  refine Hx.mapp hm ?_
  rintro ⟨r, H8⟩ ⟨vr, vt, e, hr, ht, c8, hbr⟩
  simp only at e hr ht c8 hbr
  subst e
  obtain ⟨x1', x2', x3', ex⟩ := SO.form hr
  obtain ⟨y1, y2, y3, ey⟩ := ST.form ht
  subst ex ey
  have k1 := crossed_ok (k := k + 8) (hosG.keep c8) (by omega) (by omega)
  have k2 := crossed_ok (k := k + 8) hr (by omega) (by omega)
  rw [nca.crossed] at k1
  rw [ncb.crossed] at k2
  have g8 := c8.get gG (by simp)
  have rw8 : rowRw H8 0 H7.length = some _ := rowRw_rw g8
  simp [k1, k2]
  by_cases hl0 : left = 0
  · simp [hl0]
  · simp only [Od.cs] at rw8
    simp [hl0, rw8]
    obtain ⟨o', eo'⟩ : ∃ o' : Od, o' = { o with q := left } := ⟨_, rfl⟩
    obtain ⟨G2, e2⟩ : ∃ G2, G2 = H8.set H7.length (.cells o'.cs .rw) := ⟨_, rfl⟩
    have cG2 : Chg [H7.length] H8 G2 := by rw [e2]; exact .set _ _ _
    have rG2 : rowOf G2 H7.length = some o'.cs := by rw [e2]; exact rowOf_self (lt_of_get g8)
    have hnb : ∀ {i : Nat}, i ∈ blk (AV.slice x1' B.length x2' x3') → i ∉ [H7.length] := fun {i} hi => by have := hbr i hi; have := lt_of_get gG; simp; omega
    have hrG := SL.chg hr cG2 (fun i hi => hnb hi)
    have hst := hstop (by omega)
    rw [← eo'] at hst
    have e2' := e2
    rw [eo'] at e2
    simp only [Od.cs] at e2
    rw [← e2]
    refine hx_up (fun i st => ∃ H', st = ⟨sp 87 [(5, .ptr (some (H7.length, 0))), (6, .slice x1' B.length x2' x3'), (10, .int .i64 i)], H', []⟩ ∧ Chg [] G2 H') B.length ?_ ?_ (by omega) ⟨G2, by simp [maskS], .refl⟩
    · rintro i st hi ⟨H9, rfl, c9⟩
      have hi' : (i : Int) < B.length := by omega
      have wi : IntKind.i64.wrap ((i : Int) + 1) = (i : Int) + 1 := wrap_i64 (by omega) (by omega)
      simp [hi', hi]
      refine hx_drawn dc6_15 fun X cX _ _ => ?_
      obtain ⟨b, ob, c', r, e, g0, gg⟩ := SO.all (hrG.keep (c9.tr cX)) (by intro h; simp [h] at hi)
      injection e with z1 z2 z3 z4
      subst z1 z3 z4
      obtain ⟨g1, g2, -⟩ := gg i hi
      obtain ⟨y, ey⟩ : ∃ y, y = B[i] := ⟨_, rfl⟩
      rw [← ey] at g2
      have q1 := hst y (by rw [ey]; exact List.getElem_mem hi)
      have q2 : crossB o' y = false := by rw [cross_comm]; exact q1
      have rX := (c9.tr cX).row rG2 (by simp)
      have k3 := @cross_ok (k + 5) X y o'
      have k4 := @cross_ok (k + 5) X o' y
      rw [q1] at k3
      rw [q2] at k4
      simp only [Od.cs] at rX g2 k3 k4
      simp [d6_15, hi', hi, g0, g1, g2, rX, k3, k4, maskS, wi]
      exact c9.tr cX
    · rintro st ⟨H9, rfl, c9⟩
      simp
      refine hx_drawn dc6_17 fun X cX hl hd => ?_
      have cX' := c9.tr cX
      have rX := cX'.row rG2 (by simp)
      have hd4 := hd 4 (by simp [d6_17])
      have hd8 := hd 8 (by simp [d6_17])
      have hG2 : H7.length < H9.length := by have := lt_of_get gG; have := c8.1; have := cG2.1; have := c9.1; omega
      simp only [Od.cs] at rX
      by_cases h32 : B.length = 32
      · have h32' : (B.length : Int) = 32 := by omega
        simp [d6_17, h32, h32', hd4, hd8, rX]
      · have h32' : ¬ (B.length : Int) = 32 := by omega
        obtain ⟨X1, eX1⟩ : ∃ X1, X1 = X.set (H9.length + 4) (.cells [] .pl) := ⟨_, rfl⟩
        have cX1 : Chg [H9.length + 4] X X1 := by rw [eX1]; exact .set _ _ _
        have rX1 := cX1.row rX (by simp; omega)
        have hb4 : rowOf X1 (H9.length + 4) = some [] := by rw [eX1]; simp [rowOf, lt_of_get hd4]
        have hd81 := cX1.get hd8 (by simp)
        have hBX := SL.chg (hrG.keep cX') cX1 (fun i hi => by have := hr.lt i hi; have := c8.1; have := cG2.1; have := c9.1; have := lt_of_get g8; have : H8.length = G2.length := (by rw [e2]; simp); simp; omega)
        have happ := Og.append (by_ := 48) (.zero hb4) hBX (by omega) (by omega) (odsC_one B) (by simp [room]; omega)
        simp [d6_17, h32, h32', hd4, rX]
        rw [← eX1]
        simp [rX1]
        refine Hx.mapp happ ?_
        rintro ⟨w1', X2⟩ ⟨t1, t2, t3⟩
        simp only [List.nil_append] at t1 t2 t3
        have t3' : ∀ i ∈ blk w1', i = H9.length + 4 ∨ X1.length ≤ i := fun i hi => by simpa using t3 i hi
        have hl' : X.length = H9.length + 14 := hl
        have rX2 := t2.row rX1 (by simp; omega)
        have hd82 := t2.get hd81 (by simp)
        obtain ⟨aw, cw, sw, ew⟩ := SO.form (t1.sl (by omega))
        have hX2 : H7.length < H9.length + 8 := by omega
        rw [ew]
        obtain ⟨X3, e3⟩ : ∃ X3, X3 = X2.set (H9.length + 8) (.cells o'.cs .pl) := ⟨_, rfl⟩
        have cX3 : Chg [H9.length + 8] X2 X3 := by rw [e3]; exact .set _ _ _
        have rX3 : rowOf X3 (H9.length + 8) = some o'.cs := by rw [e3]; simp [rowOf, lt_of_get hd82]
        have slY : SL X3 6 (.slice (some (H9.length + 8, 0)) 1 (some 1) 6) o'.cs := .at_ _ 0 1 (some 1) o'.cs _ (by omega) rX3 (by simp [Od.cs]) (by simp [Od.cs]) (by simp)
        have hX1l : X1.length = X.length := by rw [eX1]; simp
        have happ2 := Og.append (by_ := 48) (t1.chg cX3 (fun i hi => by have := t3' i hi; simp; omega)) slY (by omega) (by omega) (by simp [Od.cs]) (by simp [room, Od.cs]; omega)
        rw [ew] at happ2
        rw [← odsC_snoc] at happ2
        simp only [Od.cs] at e3
        simp [rX2, hd82, hd81]
        rw [← e3]
        refine Hx.mapp happ2 ?_
        rintro ⟨w2', X4⟩ ⟨u1, u2, u3⟩
        simp only at u1 u2 u3
        have k5 := crossed_ok (k := k + 8) (u1.sl (by omega)) (by simp; omega) (by simp; omega)
        rw [(ncb.snoc hst).crossed] at k5
        obtain ⟨aw2, cw2, sw2, ew2⟩ := SO.form (u1.sl (by omega))
        rw [ew2] at k5 ⊢
        simp only [List.length_append, List.length_cons, List.length_nil] at k5
        have rX4 := u2.row (cX3.row rX2 (by simp; omega)) (fun hi => by have := t3' H7.length (by rw [ew]; exact hi); omega)
        have rXX := cX3.row rX2 (by simp; omega)
        simp [k5, rX4, rXX, rX1]
theorem matchStops_main (H : AH) (ass : List (List AV)) (hl : ass.length = [27].length) (ha : ∀ (i : Nat) t al, [27][i]? = some t → ass[i]? = some al → AR ap 6 H t al) :
    Hx (callA ap 2000 (.func 6 [] []) (List.zipWith (argA ap) [27] ass) 0 H) fun r => r.1 = .bool true := by
  match ass, hl with
  | [a0], _ =>
    obtain ⟨v, L, rfl, h0, hL⟩ := ar_u64s (ha 0 27 a0 rfl rfl) ty27 rfl ty48 rfl rfl
    simp only [List.zipWith_cons_cons, List.zipWith_nil_right, argA_one ty27 rfl]
    exact matchStops_ok h0 hL (by omega)
end
end Go.Proofs.Ytjpmddjibeecbaa.T.Qu
end
