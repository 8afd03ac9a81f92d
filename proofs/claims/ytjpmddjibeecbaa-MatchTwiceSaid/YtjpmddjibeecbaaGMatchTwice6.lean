import Derived.Test.YtjpmddjibeecbaaGQ205
section
/-! MatchStops. -/
set_option linter.unusedVariables false
set_option linter.unusedSimpArgs false
set_option maxHeartbeats 4000000
set_option maxRecDepth 100000
namespace Go.Proofs.Ytjpmddjibeecbaa.T.Qu
open Go Go.Ab
/-- A row of one's own, or one of no room at all. -/
inductive Og (H : AH) (sz : Nat) : AV → List AV → Prop
  | mine {v : AV} {cs : List AV} (h : Mine H sz v cs) : Og H sz v cs
  | zero {b : Nat} (h : rowOf H b = some []) : Og H sz (.slice (some (b, 0)) 0 (some 0) sz) []
section
variable {k p n sz : Nat} {H : AH}
theorem Og.chg {v : AV} {cs : List AV} {F : List Nat} {H' : AH} (h : Og H sz v cs) (c : Chg F H H') (hF : ∀ i ∈ blk v, i ∉ F) : Og H' sz v cs := by
  cases h with
  | mine h => exact .mine (h.chg c hF)
  | zero h => exact .zero (c.row h (hF _ (by simp)))
theorem Og.sl {v : AV} {cs : List AV} (h : Og H sz v cs) (hz : 0 < sz) : SL H sz v cs := by
  cases h with
  | mine h => exact h.sl
  | zero h => exact SL.cap0 hz h (by simp)
theorem Og.append {by_ : Nat} {v x : AV} {cs xs : List AV} (h : Og H sz v cs) (hx : SL H sz x xs) (hz : 0 < sz) (hb : 0 < by_) (h1 : xs.all AV.one = true) (hr : (cs.length + xs.length) * by_ ≤ room) :
    Hx (aappend 0 H sz by_ v x) fun r => Og r.2 sz r.1 (cs ++ xs) ∧ Chg (blk v) H r.2 ∧ ∀ i ∈ blk r.1, i ∈ blk v ∨ H.length ≤ i := by
  cases h with
  | mine h => exact (h.append hx hz hb h1 hr).mono fun r ⟨a, b, c⟩ => ⟨.mine a, b, c⟩
  | @zero b h =>
    obtain ⟨a, n, c, s, rfl, hn⟩ := hx.form
    have hf := hx.first hn
    have hs := hx.sz_ok
    have hs0 : szOk sz (.slice (some (b, 0)) 0 (some 0) sz) = true := by simp [szOk]
    rw [aappend_eq, hs, hs0]
    simp only [lenOf, Option.bind_some, hf, h1, Bool.true_eq_false, if_false, aappendC, h, decide_eq_true hz, decide_eq_true hb, Bool.and_self, if_true, tag_eq]
    by_cases h0 : n = 0
    · subst h0
      have : xs = [] := by simpa using hn.symm
      subst this
      simp
      exact ⟨.zero h, .refl⟩
    · have hroom : n * by_ ≤ room := by
        refine Nat.le_trans (Nat.mul_le_mul_right by_ ?_) hr
        rw [← hn]
        exact Nat.le_trans (Nat.le_mul_of_pos_right _ hz) (Nat.le_add_left _ _)
      simp [h0, hroom]
      refine ⟨.mine ?_, Chg.app _ _⟩
      have hk := Mine.new (H := H) (X := H ++ [.cells xs .rw]) (l := xs) (n := n) (c := none) hz rfl (by omega) (by simp)
      rw [hn, List.take_length] at hk
      exact hk
theorem matchStops_ok {v : AV} {L : List Int} (h : SL H 1 v (u64s L)) (hL : ∀ x ∈ L, U64 x) (hk : 1000 < k) : Hx (callA ap k (.func 6 [] []) [v] 0 H) fun r => r.1 = .bool true := by
  obtain ⟨k, rfl⟩ : ∃ k', k = k' + 9 := ⟨k - 9, by omega⟩
  rw [hx_go fn6 rfl, b6]
  have hkn := fun H => knownK (K := k + 8) (H := H) (by omega)
  simp [hkn]
  refine Hx.mapp (of_ok (k := k + 7) h hL) ?_
  rintro ⟨r, H1⟩ ⟨e, d1, c1⟩
  simp only at e d1 c1
  subst e
  obtain ⟨p, hp⟩ : ∃ p, p = H.length := ⟨_, rfl⟩
  rw [← hp] at d1 ⊢
  simp
  refine Hx.mapp (resting_ok (k := k + 8) d1 (by omega) (by omega)) ?_
  rintro ⟨v0, H2⟩ ⟨os', id, hdr, hlen', hv, d2, c2, hb⟩
  simp only at hv d2 c2 hb
  obtain ⟨os, eos⟩ : ∃ os, os = restN os' os'.length := ⟨_, rfl⟩
  rw [← eos] at hv
  obtain ⟨ra, nca, -⟩ := rest_nc hdr (by omega) os'.length (Nat.le_refl _)
  rw [← eos] at ra nca
  have hlen := (rightL_mem ra).2
  have hids : ∀ x ∈ os, x.id ≤ 200 := fun x hx => by
    obtain ⟨m, hm, -, e⟩ := (rest_nc hdr (by omega) os'.length (Nat.le_refl _)).2.2 x (by rw [← eos]; exact hx)
    have := hdr.ok _ (List.getElem_mem hm)
    have := hdr.top
    omega
  obtain ⟨a0, c0, s0, e0⟩ := SO.form hv.sl
  subst e0
  simp
  refine Hx.mapp (n_ok (k := k + 6) d2 (by omega) (m := 6) (by omega) (by omega)) ?_
  rintro ⟨r, H3⟩ ⟨x1, e, hx1, d3, c3⟩
  simp only at e d3 c3
  subst e
  have w1 : IntKind.i64.wrap (1 + x1) = 1 + x1 := wrap_i64 (by omega) (by omega)
  simp [w1]
  refine Hx.mapp (n_ok (k := k + 6) d3 (by omega) (m := 2) (by omega) (by omega)) ?_
  rintro ⟨r, H4⟩ ⟨x2, e, hx2, d4, c4⟩
  simp only at e d4 c4
  subst e
  simp
  refine Hx.mapp (n_ok (k := k + 6) d4 (by omega) (m := 2) (by omega) (by omega)) ?_
  rintro ⟨r, H5⟩ ⟨x3, e, hx3, d5, c5⟩
  simp only at e d5 c5
  subst e
  have w3 : IntKind.i64.wrap (1 + x3) = 1 + x3 := wrap_i64 (by omega) (by omega)
  simp [w3]
  refine Hx.mapp (n_ok (k := k + 6) d5 (by omega) (m := 100) (by omega) (by omega)) ?_
  rintro ⟨r, H6⟩ ⟨x4, e, hx4, d6, c6⟩
  simp only at e d6 c6
  subst e
  have w4 : IntKind.i64.wrap (1 + x4) = 1 + x4 := wrap_i64 (by omega) (by omega)
  simp [w4]
  refine Hx.mapp (n_ok (k := k + 6) d6 (by omega) (m := 20) (by omega) (by omega)) ?_
  rintro ⟨r, H7⟩ ⟨x5, e, hx5, d7, c7⟩
  simp only at e d7 c7
  subst e
  have w5 : IntKind.i64.wrap (90 + x5) = 90 + x5 := wrap_i64 (by omega) (by omega)
  have c27 : Chg [p] H2 H7 := c3.tr' (c4.tr' (c5.tr' (c6.tr' c7)))
  obtain ⟨o, eo⟩ : ∃ o : Od, o = ⟨999, 1 + x1, x2, 1 + x3, 1 + x4, 90 + x5⟩ := ⟨_, rfl⟩
  have hro : rightO o = true := by
    rw [eo]; unfold rightO
    simp only [Bool.and_eq_true, Bool.or_eq_true, decide_eq_true_eq]
    omega
  obtain ⟨G, eG⟩ : ∃ G, G = H7 ++ [.cells o.cs .rw] := ⟨_, rfl⟩
  have cG : Chg [] H7 G := by rw [eG]; exact .app _ _
  have gG : G[H7.length]? = some (.cells o.cs .rw) := by rw [eG]; simp
  have hosG : SO G (.slice a0 os.length c0 s0) os := ((hv.chg c27 (fun i hi => by have := hb i hi; have := d1.lt; simp; omega)).sl).keep cG
  have hm := match_ok (k := k + 8) (o := o) hosG (by omega) (by omega)
  obtain ⟨T, left, m⟩ := matched ra hro
  obtain ⟨B, eB⟩ : ∃ B, B = (os.map (decs T)).filter (fun x => !decide (x.q = 0)) := ⟨_, rfl⟩
  obtain ⟨ts, ets⟩ : ∃ ts, ts = T.map (fun e => trO o e.1 e.2) := ⟨_, rfl⟩
  have em := m.m
  rw [← eB, ← ets] at em
  obtain ⟨rb, ncb, left0, lefto, hfrom, hstop⟩ := stops ra hro em
  have ncb := ncb nca
  rw [em] at hm
  have hBl := (rightL_mem rb).2
  have oq : o.q = 1 + x4 := by rw [eo]
  have eG' := eG
  simp only [Od.cs, eo, tag_eq] at eG hm
  simp [w5]
  rw [← eG]
  refine Hx.mapp hm ?_
  rintro ⟨r, H8⟩ ⟨vr, vt, e, hr, ht, c8, hbr⟩
  simp only at e hr ht c8 hbr
  subst e
  obtain ⟨x1', x2', x3', ex⟩ := SO.form hr
  obtain ⟨y1, y2, y3, ey⟩ := ST.form ht
  subst ex ey
  have k1 := crossed_ok (k := k + 8) (hosG.keep c8) (by omega) (by omega)
  have k2 := crossed_ok (k := k + 8) hr (by omega) (by omega)
  rw [nca.crossed] at k1
  rw [ncb.crossed] at k2
  have g8 := c8.get gG (by simp)
  have rw8 : rowRw H8 0 H7.length = some _ := rowRw_rw g8
  simp [k1, k2]
  by_cases hl0 : left = 0
  · simp [hl0]
  · simp only [Od.cs] at rw8
    simp [hl0, rw8]
    obtain ⟨o', eo'⟩ : ∃ o' : Od, o' = { o with q := left } := ⟨_, rfl⟩
    obtain ⟨G2, e2⟩ : ∃ G2, G2 = H8.set H7.length (.cells o'.cs .rw) := ⟨_, rfl⟩
    have cG2 : Chg [H7.length] H8 G2 := by rw [e2]; exact .set _ _ _
    have rG2 : rowOf G2 H7.length = some o'.cs := by rw [e2]; exact rowOf_self (lt_of_get g8)
    have hnb : ∀ {i : Nat}, i ∈ blk (AV.slice x1' B.length x2' x3') → i ∉ [H7.length] := fun {i} hi => by have := hbr i hi; have := lt_of_get gG; simp; omega
    have hrG := SL.chg hr cG2 (fun i hi => hnb hi)
    have hst := hstop (by omega)
    rw [← eo'] at hst
    have e2' := e2
    rw [eo'] at e2
    simp only [Od.cs] at e2
    rw [← e2]
    refine hx_up (fun i st => ∃ H', st = ⟨sp 87 [(5, .ptr (some (H7.length, 0))), (6, .slice x1' B.length x2' x3'), (10, .int .i64 i)], H', []⟩ ∧ Chg [] G2 H') B.length ?_ ?_ (by omega) ⟨G2, by simp [maskS], .refl⟩
    · rintro i st hi ⟨H9, rfl, c9⟩
      have hi' : (i : Int) < B.length := by omega
      have wi : IntKind.i64.wrap ((i : Int) + 1) = (i : Int) + 1 := wrap_i64 (by omega) (by omega)
      simp [hi', hi]
      refine hx_drawn dc6_15 fun X cX _ _ => ?_
      obtain ⟨b, ob, c', r, e, g0, gg⟩ := SO.all (hrG.keep (c9.tr cX)) (by intro h; simp [h] at hi)
      injection e with z1 z2 z3 z4
      subst z1 z3 z4
      obtain ⟨g1, g2, -⟩ := gg i hi
      obtain ⟨y, ey⟩ : ∃ y, y = B[i] := ⟨_, rfl⟩
      rw [← ey] at g2
      have q1 := hst y (by rw [ey]; exact List.getElem_mem hi)
      have q2 : crossB o' y = false := by rw [cross_comm]; exact q1
      have rX := (c9.tr cX).row rG2 (by simp)
      have k3 := @cross_ok (k + 5) X y o'
      have k4 := @cross_ok (k + 5) X o' y
      rw [q1] at k3
      rw [q2] at k4
      simp only [Od.cs] at rX g2 k3 k4
      simp [d6_15, hi', hi, g0, g1, g2, rX, k3, k4, maskS, wi]
      exact c9.tr cX
    · rintro st ⟨H9, rfl, c9⟩
      simp
      refine hx_drawn dc6_17 fun X cX hl hd => ?_
      have cX' := c9.tr cX
      have rX := cX'.row rG2 (by simp)
      have hd4 := hd 4 (by simp [d6_17])
      have hd8 := hd 8 (by simp [d6_17])
      have hG2 : H7.length < H9.length := by have := lt_of_get gG; have := c8.1; have := cG2.1; have := c9.1; omega
      simp only [Od.cs] at rX
      by_cases h32 : B.length = 32
      · have h32' : (B.length : Int) = 32 := by omega
        simp [d6_17, h32, h32', hd4, hd8, rX]
      · have h32' : ¬ (B.length : Int) = 32 := by omega
        obtain ⟨X1, eX1⟩ : ∃ X1, X1 = X.set (H9.length + 4) (.cells [] .pl) := ⟨_, rfl⟩
        have cX1 : Chg [H9.length + 4] X X1 := by rw [eX1]; exact .set _ _ _
        have rX1 := cX1.row rX (by simp; omega)
        have hb4 : rowOf X1 (H9.length + 4) = some [] := by rw [eX1]; simp [rowOf, lt_of_get hd4]
        have hd81 := cX1.get hd8 (by simp)
        have hBX := SL.chg (hrG.keep cX') cX1 (fun i hi => by have := hr.lt i hi; have := c8.1; have := cG2.1; have := c9.1; have := lt_of_get g8; have : H8.length = G2.length := (by rw [e2]; simp); simp; omega)
        have happ := Og.append (by_ := 48) (.zero hb4) hBX (by omega) (by omega) (odsC_one B) (by simp [room]; omega)
        simp [d6_17, h32, h32', hd4, rX]
        rw [← eX1]
        simp [rX1]
        refine Hx.mapp happ ?_
        rintro ⟨w1', X2⟩ ⟨t1, t2, t3⟩
        simp only [List.nil_append] at t1 t2 t3
        have t3' : ∀ i ∈ blk w1', i = H9.length + 4 ∨ X1.length ≤ i := fun i hi => by simpa using t3 i hi
        have hl' : X.length = H9.length + 14 := hl
        have rX2 := t2.row rX1 (by simp; omega)
        have hd82 := t2.get hd81 (by simp)
        obtain ⟨aw, cw, sw, ew⟩ := SO.form (t1.sl (by omega))
        have hX2 : H7.length < H9.length + 8 := by omega
        rw [ew]
        obtain ⟨X3, e3⟩ : ∃ X3, X3 = X2.set (H9.length + 8) (.cells o'.cs .pl) := ⟨_, rfl⟩
        have cX3 : Chg [H9.length + 8] X2 X3 := by rw [e3]; exact .set _ _ _
        have rX3 : rowOf X3 (H9.length + 8) = some o'.cs := by rw [e3]; simp [rowOf, lt_of_get hd82]
        have slY : SL X3 6 (.slice (some (H9.length + 8, 0)) 1 (some 1) 6) o'.cs := .at_ _ 0 1 (some 1) o'.cs _ (by omega) rX3 (by simp [Od.cs]) (by simp [Od.cs]) (by simp)
        have hX1l : X1.length = X.length := by rw [eX1]; simp
        have happ2 := Og.append (by_ := 48) (t1.chg cX3 (fun i hi => by have := t3' i hi; simp; omega)) slY (by omega) (by omega) (by simp [Od.cs]) (by simp [room, Od.cs]; omega)
        rw [ew] at happ2
        rw [← odsC_snoc] at happ2
        simp only [Od.cs] at e3
        simp [rX2, hd82, hd81]
        rw [← e3]
        refine Hx.mapp happ2 ?_
        rintro ⟨w2', X4⟩ ⟨u1, u2, u3⟩
        simp only at u1 u2 u3
        have k5 := crossed_ok (k := k + 8) (u1.sl (by omega)) (by simp; omega) (by simp; omega)
        rw [(ncb.snoc hst).crossed] at k5
        obtain ⟨aw2, cw2, sw2, ew2⟩ := SO.form (u1.sl (by omega))
        rw [ew2] at k5 ⊢
        simp only [List.length_append, List.length_cons, List.length_nil] at k5
        have rX4 := u2.row (cX3.row rX2 (by simp; omega)) (fun hi => by have := t3' H7.length (by rw [ew]; exact hi); omega)
        have rXX := cX3.row rX2 (by simp; omega)
        simp [k5, rX4, rXX, rX1]
theorem matchStops_main (H : AH) (ass : List (List AV)) (hl : ass.length = [27].length) (ha : ∀ (i : Nat) t al, [27][i]? = some t → ass[i]? = some al → AR ap 6 H t al) :
    Hx (callA ap 2000 (.func 6 [] []) (List.zipWith (argA ap) [27] ass) 0 H) fun r => r.1 = .bool true := by
  match ass, hl with
  | [a0], _ =>
    obtain ⟨v, L, rfl, h0, hL⟩ := ar_u64s (ha 0 27 a0 rfl rfl) ty27 rfl ty48 rfl rfl
    simp only [List.zipWith_cons_cons, List.zipWith_nil_right, argA_one ty27 rfl]
    exact matchStops_ok h0 hL (by omega)
end
end Go.Proofs.Ytjpmddjibeecbaa.T.Qu
end
section
/-! MatchTwice. -/
set_option linter.unusedVariables false
set_option linter.unusedSimpArgs false
set_option maxHeartbeats 4000000
set_option maxRecDepth 100000
namespace Go.Proofs.Ytjpmddjibeecbaa.T.Qu
open Go Go.Ab
theorem Mine.put {H : AH} {sz b n j : Nat} {c : Option Nat} {R cs : List AV} {x : AV} (hz : 0 < sz) (h1 : H[b]? = some (.cells R .rw)) (h2 : n * sz ≤ R.length) (h3 : R.take (n * sz) = cs) (h4 : ∀ k, c = some k → R.length = k * sz) (hj : j < n * sz) :
    Mine (H.set b (.cells (R.take j ++ x :: R.drop (j + 1)) .rw)) sz (.slice (some (b, 0)) n c sz) (cs.set j x) := by
  have e : R.take j ++ x :: R.drop (j + 1) = R.set j x := by rw [List.set_eq_take_append_cons_drop, if_pos (by omega)]
  rw [e]
  refine .row b n c _ _ hz (List.getElem?_set_self (lt_of_get h1)) (by simpa using h2) ?_ (fun k hk => by rw [List.length_set]; exact h4 k hk)
  rw [List.take_set, h3]
theorem Mine.inv {H : AH} {sz : Nat} {v : AV} {cs : List AV} (h : Mine H sz v cs) (h0 : cs ≠ []) : ∃ b n c R, v = .slice (some (b, 0)) n c sz ∧ H[b]? = some (.cells R .rw) ∧ n * sz ≤ R.length ∧ R.take (n * sz) = cs ∧ ∀ k, c = some k → R.length = k * sz := by
  cases h with
  | nil c s => exact (h0 rfl).elim
  | row b n c l cs hz h1 h2 h3 h4 => exact ⟨b, n, c, l, rfl, h1, h2, h3, h4⟩
theorem jn_snoc {l : List Tr} {i : Nat} (hi : i < l.length) : jn (l.take (i + 1)) = jn1 (jn (l.take i)) l[i] := by
  rw [List.take_succ_eq_append_getElem hi, jn, jn, List.foldl_append]; rfl
theorem jn_len (l : List Tr) : ∀ i, i ≤ l.length → (jn (l.take i)).length ≤ i
  | 0, _ => by simp [jn]
  | i + 1, hi => by
    have ih := jn_len l i (by omega)
    rw [jn_snoc (by omega)]
    cases h : jn (l.take i) with
    | nil => simp [jn1]
    | cons z out =>
      rw [h] at ih
      unfold jn1
      simp only [List.length_cons] at ih ⊢
      split <;> simp <;> omega
theorem jn_bound {l : List Tr} (hq : ∀ t ∈ l, 0 ≤ t.q ∧ t.q ≤ 1000000000) : ∀ i, i ≤ l.length → ∀ t ∈ jn (l.take i), 0 ≤ t.q ∧ t.q ≤ 1000000000 * i
  | 0, _ => by simp [jn]
  | i + 1, hi => by
    have ih := jn_bound hq i (by omega)
    have h1 := hq _ (List.getElem_mem (by omega : i < l.length))
    rw [jn_snoc (by omega)]
    generalize l[i] = x at *
    cases h : jn (l.take i) with
    | nil => simp [jn1]; omega
    | cons z out =>
      rw [h] at ih
      have hz := ih z (by simp)
      unfold jn1
      intro t ht
      simp only at ht
      split at ht
      · rcases List.mem_cons.1 ht with rfl | ht
        · simp only; omega
        · have := ih t (by simp [ht]); omega
      · rcases List.mem_cons.1 ht with rfl | ht
        · omega
        · have := ih t ht; omega
section
variable {k p n : Nat} {H : AH}
theorem joined_ok {v : AV} {l : List Tr} (h : ST H v l) (hl : l.length ≤ 1000) (hq : ∀ t ∈ l, 0 ≤ t.q ∧ t.q ≤ 1000000000) (hk : l.length + 10 < k) : Hx (callA ap k (.func 20 [] []) [v] 0 H) fun r => ST r.2 r.1 (jn l).reverse ∧ Chg [] H r.2 := by
  obtain ⟨k, rfl⟩ : ∃ k', k = k' + 1 := ⟨k - 1, by omega⟩
  rw [hx_go fn20 rfl, b20]
  obtain ⟨a, c, s, rfl⟩ := ST.form h
  simp
  refine hx_up (fun i st => ∃ H' w, st = ⟨sp 80 [(0, .slice a l.length c s), (3, w), (4, .int .i64 i)], H', []⟩ ∧ Mine H' 5 w (trsC (jn (l.take i)).reverse) ∧ (∀ b ∈ blk w, H.length ≤ b) ∧ Chg [] H H') l.length ?_ ?_ (by omega) ⟨H, .slice none 0 (some 0) 0, by simp [maskS], .nil _ _, by simp, .refl⟩
  · rintro i st hi ⟨H2, w, rfl, hw, hb, c2⟩
    have hi' : (i : Int) < l.length := by omega
    have wi : IntKind.i64.wrap ((i : Int) + 1) = (i : Int) + 1 := wrap_i64 (by omega) (by omega)
    have hb1 := jn_len l i (by omega)
    have hb2 := jn_bound hq i (by omega)
    obtain ⟨x, ex⟩ : ∃ x, x = l[i] := ⟨_, rfl⟩
    have hxq := hq x (by rw [ex]; exact List.getElem_mem hi)
    have hs := jn_snoc hi
    rw [← ex] at hs
    have hap : ∀ {H3 : AH}, Chg [] H2 H3 → jn (l.take (i + 1)) = x :: jn (l.take i) → Hx (aappend 0 (H3 ++ [.cells x.cs .pl]) 5 40 w (.slice (some (H3.length, 0)) 1 (some 1) 5)) fun r => Mine r.2 5 r.1 (trsC (jn (l.take (i + 1))).reverse) ∧ (∀ b ∈ blk r.1, H.length ≤ b) ∧ Chg [] H r.2 := fun {H3} c3 e => by
      obtain ⟨V, eV⟩ : ∃ V, V = H3 ++ [.cells x.cs .pl] := ⟨_, rfl⟩
      have cV : Chg [] H3 V := by rw [eV]; exact .app _ _
      have slY : SL V 5 (.slice (some (H3.length, 0)) 1 (some 1) 5) x.cs := .at_ _ 0 1 (some 1) x.cs _ (by omega) (by rw [eV]; simp [rowOf]) (by simp [Tr.cs]) (by simp [Tr.cs]) (by simp)
      rw [← eV]
      refine ((hw.keep (c3.tr cV)).append slY (by_ := 40) (by omega) (by omega) (by simp [Tr.cs]) (by simp [room, Tr.cs]; omega)).mono fun r ⟨t1, t2, t3⟩ => ⟨?_, fun b hb' => ?_, ?_⟩
      · rw [e, List.reverse_cons, trsC_snoc]; exact t1
      · rcases t3 b hb' with h' | h'
        · exact hb b h'
        · have := cV.1; have := c3.1; have := c2.1; omega
      · exact (c2.tr (c3.tr cV)).trans t2 (fun i hi => .inr (hb i hi))
    obtain ⟨b, ob, c', r, e, g0, gg⟩ := ST.all (h.keep c2) (by intro h; simp [h] at hi)
    injection e with z1 z2 z3 z4
    subst z1 z3 z4
    obtain ⟨g1, g2, g3⟩ := gg i hi
    rw [← ex] at g2 g3
    have f0 := g3 0 (by omega)
    have f1 := g3 1 (by omega)
    have f3 := g3 3 (by omega)
    have f4 := g3 4 (by omega)
    simp only [Tr.cs, Nat.add_zero, List.getElem?_cons_zero, List.getElem?_cons_succ] at f0 f1 f3 f4 g2
    cases hj : jn (l.take i) with
    | nil =>
      rw [hj] at hw hs hap
      simp only [Tr.cs] at hap
      obtain ⟨aw, cw, sw, ew⟩ := ST.form hw.sl
      subst ew
      simp [hi', hi]
      refine hx_drawn dc20_6 fun H3 c3 _ _ => ?_
      have g03 := c3.row g0 (by simp)
      simp [d20_6, hi', hi, g03, g1, g2]
      refine Hx.mapp (hap c3 hs) ?_
      rintro ⟨r, H4⟩ ⟨t1, t2, t3⟩
      simp only at t1 t2 t3
      obtain ⟨aw', cw', sw', ew'⟩ := ST.form t1.sl
      subst ew'
      simp only [List.length_reverse] at t1 t2
      simp [maskS, wi]
      exact ⟨H4, _, ⟨rfl, rfl⟩, t1, t2, t3⟩
    | cons z out =>
      rw [hj] at hw hs hap hb1 hb2
      have hz := hb2 z (by simp)
      have hne : trsC (z :: out).reverse ≠ [] := by
        intro h0
        have := congrArg List.length h0
        simp at this
      obtain ⟨b0, n, cw, R, ew, y1, y2, y3, y4⟩ := Mine.inv hw hne
      have hn : n = out.length + 1 := by
        have := congrArg List.length y3
        simp at this
        omega
      subst hn
      have hRj : ∀ j, j < 5 → R[out.length * 5 + j]? = z.cs[j]? := fun j hj => by
        have e1 : (R.take ((out.length + 1) * 5))[out.length * 5 + j]? = R[out.length * 5 + j]? := List.getElem?_take_of_lt (by omega)
        rw [← e1, y3, List.reverse_cons, trsC_snoc, List.getElem?_append_right (by simp; omega)]
        simp
        congr 1
        omega
      have r0 := hRj 0 (by omega)
      have r1 := hRj 1 (by omega)
      have r3 := hRj 3 (by omega)
      have r4 := hRj 4 (by omega)
      simp only [Tr.cs, Nat.add_zero, List.getElem?_cons_zero, List.getElem?_cons_succ] at r0 r1 r3 r4
      have hol : out.length ≤ 1000 := by simp only [List.length_cons] at hb1; omega
      have wo : IntKind.i64.wrap ((out.length : Int) + 1 - 1) = (out.length : Int) := by rw [wrap_i64 (by omega) (by omega)]; omega
      have wo' : IntKind.i64.wrap (out.length : Int) = (out.length : Int) := wrap_i64 (by omega) (by omega)
      have wq : IntKind.i64.wrap (z.q + x.q) = z.q + x.q := wrap_i64 (by omega) (by omega)
      have hp0 : (0 : Int) < (out.length : Int) + 1 := by omega
      have hlt : (out.length : Int) < (out.length : Int) + 1 := by omega
      subst ew
      simp only [List.length_cons] at hb1
      simp [hi', hi]
      refine hx_drawn dc20_6 fun H3 c3 _ _ => ?_
      have g03 := c3.row g0 (by simp)
      have y13 := c3.get y1 (by simp)
      have ry := rowOf_rw y13
      by_cases h0 : z.b = x.b
      case neg =>
        have hsn : jn1 (z :: out) x = x :: z :: out := by simp [jn1, same3, h0]
        rw [hsn] at hs
        simp only [Tr.cs] at hap
        simp [d20_6, hi', hi, g03, ry, f0, f1, f4, r0, r1, r4, hp0, hlt, wo, wo', h0, g1, g2]
        refine Hx.mapp (hap c3 hs) ?_
        rintro ⟨r, H4⟩ ⟨t1, t2, t3⟩
        simp only at t1 t2 t3
        obtain ⟨aw', cw', sw', ew'⟩ := ST.form t1.sl
        subst ew'
        simp only [List.length_reverse] at t1 t2
        simp [maskS, wi]
        exact ⟨H4, _, ⟨rfl, rfl⟩, t1, t2, t3⟩
      by_cases h1 : z.s = x.s
      case neg =>
        have hsn : jn1 (z :: out) x = x :: z :: out := by simp [jn1, same3, h1]
        rw [hsn] at hs
        simp only [Tr.cs] at hap
        simp [d20_6, hi', hi, g03, ry, f0, f1, f4, r0, r1, r4, hp0, hlt, wo, wo', h0, h1, g1, g2]
        refine Hx.mapp (hap c3 hs) ?_
        rintro ⟨r, H4⟩ ⟨t1, t2, t3⟩
        simp only at t1 t2 t3
        obtain ⟨aw', cw', sw', ew'⟩ := ST.form t1.sl
        subst ew'
        simp only [List.length_reverse] at t1 t2
        simp [maskS, wi]
        exact ⟨H4, _, ⟨rfl, rfl⟩, t1, t2, t3⟩
      by_cases h2 : z.p = x.p
      case neg =>
        have hsn : jn1 (z :: out) x = x :: z :: out := by simp [jn1, same3, h2]
        rw [hsn] at hs
        simp only [Tr.cs] at hap
        simp [d20_6, hi', hi, g03, ry, f0, f1, f4, r0, r1, r4, hp0, hlt, wo, wo', h0, h1, h2, g1, g2]
        refine Hx.mapp (hap c3 hs) ?_
        rintro ⟨r, H4⟩ ⟨t1, t2, t3⟩
        simp only at t1 t2 t3
        obtain ⟨aw', cw', sw', ew'⟩ := ST.form t1.sl
        subst ew'
        simp only [List.length_reverse] at t1 t2
        simp [maskS, wi]
        exact ⟨H4, _, ⟨rfl, rfl⟩, t1, t2, t3⟩
      have hsn : jn1 (z :: out) x = { z with q := z.q + x.q } :: out := by simp [jn1, same3, h0, h1, h2]
      rw [hsn] at hs
      simp [d20_6, hi', hi, g03, ry, f0, f1, f4, r0, r1, r4, hp0, hlt, wo, wo', h0, h1, h2]
      refine hx_drawn dc20_7 fun H4 c4 _ _ => ?_
      have g04 := c4.row g03 (by simp)
      have y14 := c4.get y13 (by simp)
      have ry4 := rowOf_rw y14
      have ryw : rowRw H4 0 b0 = some R := rowRw_rw y14
      have hRl : out.length * 5 + 3 + 1 ≤ R.length := by omega
      have hput := Mine.put (x := .int .i64 (z.q + x.q)) (j := out.length * 5 + 3) (by omega) y14 y2 y3 y4 (by omega)
      have hcs : (trsC (z :: out).reverse).set (out.length * 5 + 3) (.int .i64 (z.q + x.q)) = trsC ({ z with q := z.q + x.q } :: out).reverse := by
        rw [List.reverse_cons, List.reverse_cons, trsC_snoc, trsC_snoc, List.set_append_right _ _ (by simp; omega)]
        simp [Tr.cs]
        rw [show out.length * 5 + 3 - 5 * out.length = 3 by omega]
        rfl
      rw [hcs, ← hs] at hput
      simp [d20_7, hi', hi, g04, ry4, f3, r3, hp0, hlt, wo, wo', wq, ryw, hRl, maskS, wi]
      exact ⟨_, _, ⟨rfl, rfl⟩, hput, hb, (c2.tr (c3.tr c4)).set_new (hb b0 (by simp)) _⟩
  · rintro st ⟨H2, w, rfl, hw, hb, c2⟩
    rw [List.take_length] at hw
    obtain ⟨aw, cw, sw, ew⟩ := ST.form hw.sl
    subst ew
    simp only [List.length_reverse] at hw
    simp
    exact ⟨hw.sl, c2⟩
theorem matchTwice_ok {v : AV} {L : List Int} {cut : Int} (h : SL H 1 v (u64s L)) (hL : ∀ x ∈ L, U64 x) (hcut : 0 ≤ cut ∧ cut < 256) (hk : 1000 < k) : Hx (callA ap k (.func 7 [] []) [v, .int .u8 cut] 0 H) fun r => r.1 = .bool true := by
  obtain ⟨k, rfl⟩ : ∃ k', k = k' + 9 := ⟨k - 9, by omega⟩
  rw [hx_go fn7 rfl, b7]
  have hkn := fun H => knownK (K := k + 8) (H := H) (by omega)
  simp [hkn]
  refine Hx.mapp (of_ok (k := k + 7) h hL) ?_
  rintro ⟨r, H1⟩ ⟨e, d1, c1⟩
  simp only at e d1 c1
  subst e
  obtain ⟨p, hp⟩ : ∃ p, p = H.length := ⟨_, rfl⟩
  rw [← hp] at d1 ⊢
  simp
  refine Hx.mapp (norders_ok (k := k + 8) (most := 32) d1 (by omega) (by omega) (by omega)) ?_
  rintro ⟨v0, H2⟩ ⟨os, id, hv, hdr, hlen, d2, c2, hb⟩
  simp only at hv d2 c2 hb
  obtain ⟨a0, c0, s0, e0⟩ := SO.form hv.sl
  subst e0
  simp
  refine Hx.mapp (n_ok (k := k + 6) d2 (by omega) (m := 6) (by omega) (by omega)) ?_
  rintro ⟨r, H3⟩ ⟨x1, e, hx1, d3, c3⟩
  simp only at e d3 c3
  subst e
  have w1 : IntKind.i64.wrap (1 + x1) = 1 + x1 := wrap_i64 (by omega) (by omega)
  simp [w1]
  refine Hx.mapp (n_ok (k := k + 6) d3 (by omega) (m := 2) (by omega) (by omega)) ?_
  rintro ⟨r, H4⟩ ⟨x2, e, hx2, d4, c4⟩
  simp only at e d4 c4
  subst e
  simp
  refine Hx.mapp (n_ok (k := k + 6) d4 (by omega) (m := 2) (by omega) (by omega)) ?_
  rintro ⟨r, H5⟩ ⟨x3, e, hx3, d5, c5⟩
  simp only at e d5 c5
  subst e
  have w3 : IntKind.i64.wrap (1 + x3) = 1 + x3 := wrap_i64 (by omega) (by omega)
  simp [w3]
  refine Hx.mapp (n_ok (k := k + 6) d5 (by omega) (m := 100) (by omega) (by omega)) ?_
  rintro ⟨r, H6⟩ ⟨x4, e, hx4, d6, c6⟩
  simp only at e d6 c6
  subst e
  have w4 : IntKind.i64.wrap (2 + x4) = 2 + x4 := wrap_i64 (by omega) (by omega)
  simp [w4]
  refine Hx.mapp (n_ok (k := k + 6) d6 (by omega) (m := 20) (by omega) (by omega)) ?_
  rintro ⟨r, H7⟩ ⟨x5, e, hx5, d7, c7⟩
  simp only at e d7 c7
  subst e
  have w5 : IntKind.i64.wrap (90 + x5) = 90 + x5 := wrap_i64 (by omega) (by omega)
  have c27 : Chg [p] H2 H7 := c3.tr' (c4.tr' (c5.tr' (c6.tr' c7)))
  obtain ⟨o, eo⟩ : ∃ o : Od, o = ⟨999, 1 + x1, x2, 1 + x3, 2 + x4, 90 + x5⟩ := ⟨_, rfl⟩
  have hro : rightO o = true := by
    rw [eo]; unfold rightO
    simp only [Bool.and_eq_true, Bool.or_eq_true, decide_eq_true_eq]
    omega
  obtain ⟨z, ez⟩ : ∃ z : Int, z = 1 + cut % (o.q - 1) := ⟨_, rfl⟩
  have oq : o.q = 2 + x4 := by rw [eo]
  have hz : 1 ≤ z ∧ z < o.q := by
    have := Int.emod_nonneg cut (b := o.q - 1) (by omega)
    have := Int.emod_lt_of_pos cut (b := o.q - 1) (by omega)
    omega
  obtain ⟨B, ts, left, C, U, one, V, two, m1, m2, m3, hsum, hjn⟩ := cut_same (hdr.right hlen) hro hz.1 hz.2
  obtain ⟨G, eG⟩ : ∃ G, G = H7 ++ [.cells o.cs .rw] := ⟨_, rfl⟩
  have cG : Chg [] H7 G := by rw [eG]; exact .app _ _
  have gG : G[H7.length]? = some (.cells o.cs .rw) := by rw [eG]; simp
  have rG := rowOf_rw gG
  have hosG : SO G (.slice a0 os.length c0 s0) os := ((hv.chg c27 (fun i hi => by have := hb i hi; have := d1.lt; simp; omega)).sl).keep cG
  simp only [Od.cs, eo, tag_eq] at eG rG
  simp [w5]
  rw [← eG]
  refine hx_drawn dc7_6 fun X cX hl hd => ?_
  have hd2 := hd 2 (by simp [d7_6])
  have hd3 := hd 3 (by simp [d7_6])
  have rX := cX.row rG (by simp)
  have hgl : H7.length < G.length := lt_of_get gG
  obtain ⟨Z, eZ⟩ : ∃ Z : AB, Z = .cells [.int .i64 0, .int .i64 0, .int .i64 0, .int .i64 0, .int .i64 0, .int .i64 0] .rw := ⟨_, rfl⟩
  obtain ⟨O, eO⟩ : ∃ O : AB, O = .cells [.int .i64 999, .int .i64 (1 + x1), .int .i64 x2, .int .i64 (1 + x3), .int .i64 (2 + x4), .int .i64 (90 + x5)] .rw := ⟨_, rfl⟩
  obtain ⟨X1, eX1⟩ : ∃ X1, X1 = X.set (G.length + 2) Z := ⟨_, rfl⟩
  obtain ⟨X2, eX2⟩ : ∃ X2, X2 = X1.set (G.length + 3) Z := ⟨_, rfl⟩
  obtain ⟨X3, eX3⟩ : ∃ X3, X3 = X2.set (G.length + 2) O := ⟨_, rfl⟩
  obtain ⟨X4, eX4⟩ : ∃ X4, X4 = X3.set (G.length + 3) O := ⟨_, rfl⟩
  have cX1 : Chg [G.length + 2] X X1 := by rw [eX1]; exact .set _ _ _
  have cX2 : Chg [G.length + 3] X1 X2 := by rw [eX2]; exact .set _ _ _
  have cX3 : Chg [G.length + 2] X2 X3 := by rw [eX3]; exact .set _ _ _
  have cX4 : Chg [G.length + 3] X3 X4 := by rw [eX4]; exact .set _ _ _
  have a1 : X1[G.length + 3]? = _ := cX1.get hd3 (by simp)
  have g21 : X1[G.length + 2]? = some Z := by rw [eX1]; exact List.getElem?_set_self (lt_of_get hd2)
  have g32 : X2[G.length + 3]? = some Z := by rw [eX2]; exact List.getElem?_set_self (lt_of_get a1)
  have g22 : X2[G.length + 2]? = some Z := cX2.get g21 (by simp)
  have g33 : X3[G.length + 3]? = some Z := cX3.get g32 (by simp)
  have g23 : X3[G.length + 2]? = some O := by rw [eX3]; exact List.getElem?_set_self (lt_of_get g22)
  have g34 : X4[G.length + 3]? = some O := by rw [eX4]; exact List.getElem?_set_self (lt_of_get g33)
  have g24 : X4[G.length + 2]? = some O := cX4.get g23 (by simp)
  have r2 := cX2.row (cX1.row rX (by simp; omega)) (by simp; omega)
  have r4 := cX4.row (cX3.row r2 (by simp; omega)) (by simp; omega)
  simp [d7_6, rX, hd2]
  rw [← eZ, ← eX1]
  simp [hd3]
  rw [← eX2]
  rw [eZ] at g22 g33
  have b2 := rowRw_rw g22
  have b3 := rowRw_rw g33
  simp [r2, b2]
  rw [← eO, ← eX3]
  have r3 := cX3.row r2 (by simp; omega)
  simp [b3, r3]
  rw [← eO, ← eX4]
  rw [eO] at g24 g34
  have b24 := rowRw_rw g24
  have r24 := rowOf_rw g24
  have q1 : IntKind.i64.wrap cut = cut := wrap_i64 (by omega) (by omega)
  have q2 : IntKind.i64.wrap (2 + x4 - 1) = 1 + x4 := by rw [wrap_i64 (by omega) (by omega)]; omega
  have q3 : ¬ 1 + x4 = 0 := by omega
  have q4 : cut.tmod (1 + x4) = cut % (1 + x4) := Int.tmod_eq_emod_of_nonneg hcut.1
  have ez' : 1 + cut % (1 + x4) = z := by rw [ez, oq, show (2 : Int) + x4 - 1 = 1 + x4 by omega]
  have q5 : IntKind.i64.wrap (1 + cut % (1 + x4)) = z := by rw [ez']; exact wrap_i64 (by omega) (by omega)
  have q6 : IntKind.i64.wrap (2 + x4 - z) = 2 + x4 - z := wrap_i64 (by omega) (by omega)
  obtain ⟨xo, exo⟩ : ∃ xo : Od, xo = { o with q := z } := ⟨_, rfl⟩
  obtain ⟨yo, eyo⟩ : ∃ yo : Od, yo = { o with q := o.q - z } := ⟨_, rfl⟩
  rw [← exo] at m2
  rw [← eyo] at m3
  obtain ⟨X5, eX5⟩ : ∃ X5, X5 = X4.set (G.length + 2) (.cells xo.cs .rw) := ⟨_, rfl⟩
  obtain ⟨X6, eX6⟩ : ∃ X6, X6 = X5.set (G.length + 3) (.cells yo.cs .rw) := ⟨_, rfl⟩
  have cX5 : Chg [G.length + 2] X4 X5 := by rw [eX5]; exact .set _ _ _
  have cX6 : Chg [G.length + 3] X5 X6 := by rw [eX6]; exact .set _ _ _
  have g25 : X5[G.length + 2]? = some (.cells xo.cs .rw) := by rw [eX5]; exact List.getElem?_set_self (lt_of_get g24)
  have g35 := cX5.get g34 (by simp)
  have g36 : X6[G.length + 3]? = some (.cells yo.cs .rw) := by rw [eX6]; exact List.getElem?_set_self (lt_of_get g35)
  have g26 := cX6.get g25 (by simp)
  have r5 := cX5.row r4 (by simp; omega)
  have r6 := cX6.row r5 (by simp; omega)
  have rx5 := rowOf_rw g25
  have rx6 := rowOf_rw g26
  have ry6 := rowOf_rw g36
  have b35 := rowRw_rw g35
  have c6 : Chg [] G X6 := by
    rw [eX6, eX5, eX4, eX3, eX2, eX1]
    exact (((((cX.set_new (by omega) _).set_new (by omega) _).set_new (by omega) _).set_new (by omega) _).set_new (by omega) _).set_new (by omega) _
  have hos6 := hosG.keep c6
  have hm1 := match_ok (k := k + 8) (o := o) hos6 (by omega) (by omega)
  rw [m1] at hm1
  have hxo : rightO xo = true := by rw [exo]; exact right_dec hro hz.1 (by omega)
  have hyo : rightO yo = true := by rw [eyo]; exact right_dec hro (by omega) (by omega)
  obtain ⟨_, _, _, K1⟩ := kept (hdr.right hlen) hro
  have e1 := K1.m
  rw [m1] at e1
  injection e1 with e1 e1'
  injection e1' with e1' e1''
  injection e1'' with e1'' _
  subst e1 e1' e1''
  obtain ⟨_, _, _, K2⟩ := kept (hdr.right hlen) hxo
  have e1 := K2.m
  rw [m2] at e1
  injection e1 with e1 e1'
  injection e1' with e1' e1''
  injection e1'' with e1'' _
  subst e1 e1' e1''
  obtain ⟨_, _, _, K3⟩ := kept K2.rb hyo
  have e1 := K3.m
  rw [m3] at e1
  injection e1 with e1 e1'
  injection e1' with e1' e1''
  injection e1'' with e1'' _
  subst e1 e1' e1''
  have hleft : left ≤ o.q := by have := (stops (hdr.right hlen) hro m1).2.2.2.1; exact this
  have hl0 := K1.left0
  have hBl := (rightL_mem K1.rb).2
  have hCl := (rightL_mem K2.rb).2
  have exo' := exo
  have eyo' := eyo
  rw [eo] at exo' eyo'
  simp only at exo' eyo'
  simp only [Od.cs, eo, exo', eyo', tag_eq] at eX5 eX6 hm1 rx5 rx6 ry6
  simp [r4, b24, q1, q2, q3, q4, q5]
  rw [← eX5]
  simp [r5, rx5, b35, q6]
  rw [← eX6]
  simp [r6]
  refine Hx.mapp hm1 ?_
  rintro ⟨r, H8⟩ ⟨vr, vt, e, hr, ht, c8, hbr⟩
  simp only at e hr ht c8 hbr
  subst e
  obtain ⟨ya1, ya2, ya3, ya⟩ := SO.form hr
  obtain ⟨yb1, yb2, yb3, yb⟩ := ST.form ht
  subst ya yb
  have hm2 := match_ok (k := k + 8) (o := xo) (hos6.keep c8) (by omega) (by omega)
  rw [m2] at hm2
  have rx8 := c8.row rx6 (by simp)
  simp only [Od.cs, exo', tag_eq] at hm2
  simp [rx8]
  refine Hx.mapp hm2 ?_
  rintro ⟨r, H9⟩ ⟨vc, vu, e, hc, hu, c9, hbc⟩
  simp only at e hc hu c9 hbc
  subst e
  obtain ⟨yc1, yc2, yc3, yc⟩ := SO.form hc
  obtain ⟨yd1, yd2, yd3, yd⟩ := ST.form hu
  subst yc yd
  have hm3 := match_ok (k := k + 8) (o := yo) hc (by omega) (by omega)
  rw [m3] at hm3
  have ry9 := (c8.tr c9).row ry6 (by simp)
  simp only [Od.cs, eyo', tag_eq] at hm3
  simp [ry9]
  refine Hx.mapp hm3 ?_
  rintro ⟨r, H10⟩ ⟨vd, vv, e, hd', hvv, c10, hbd⟩
  simp only at e hd' hvv c10 hbd
  subst e
  obtain ⟨ye1, ye2, ye3, ye⟩ := SO.form hd'
  obtain ⟨yf1, yf2, yf3, yf⟩ := ST.form hvv
  subst ye yf
  have hoe := orders_eq (k := k + 8) (hr.keep (c9.tr c10)) hd' (by omega) (by omega) (by omega)
  have ws : IntKind.i64.wrap (one + two) = left := by rw [hsum]; exact wrap_i64 (by omega) (by omega)
  simp [hoe, ws]
  have hb1 : ∀ {o' : Od} {l : List Tr}, (∀ t ∈ l, TrOk o' t) → ∀ t ∈ l, 0 ≤ t.q ∧ t.q ≤ 1000000000 := fun h t ht => by have := (h t ht).q; omega
  have hUV : ∀ t ∈ U ++ V, 0 ≤ t.q ∧ t.q ≤ 1000000000 := fun t ht => by
    rcases List.mem_append.1 ht with h | h
    · exact hb1 K2.each t h
    · exact hb1 K3.each t h
  have lt1 := K1.len
  have lt2 := K2.len
  have lt3 := K3.len
  refine Hx.mapp (joined_ok (k := k + 8) (ht.keep (c9.tr c10)) (by omega) (hb1 K1.each) (by omega)) ?_
  rintro ⟨r, H11⟩ ⟨hj1, c11⟩
  simp only at hj1 c11
  obtain ⟨yg1, yg2, yg3, yg⟩ := ST.form hj1
  subst yg
  simp
  obtain ⟨Y0, eY0⟩ : ∃ Y0, Y0 = H11 ++ [.cells [] .pl] := ⟨_, rfl⟩
  have cY0 : Chg [] H11 Y0 := by rw [eY0]; exact .app _ _
  have rY0 : rowOf Y0 H11.length = some [] := by rw [eY0]; simp [rowOf]
  rw [← eY0]
  have hu11 := hu.keep (c10.tr (c11.tr cY0))
  have hlen11 : H11.length < Y0.length := by rw [eY0]; simp
  refine Hx.mapp (Og.append (by_ := 40) (.zero rY0) hu11 (by omega) (by omega) (trsC_one U) (by simp [room]; omega)) ?_
  rintro ⟨w1', Y1⟩ ⟨t1, t2, t3⟩
  simp only [List.nil_append] at t1 t2 t3
  have t3' : ∀ i ∈ blk w1', i = H11.length ∨ Y0.length ≤ i := fun i hi => by simpa using t3 i hi
  obtain ⟨yh1, yh2, yh3, yh⟩ := ST.form (t1.sl (by omega))
  subst yh
  simp
  have hv1 : ST Y1 _ V := SL.chg (hvv.keep (c11.tr cY0)) t2 (fun i hi => by have := hvv.lt i hi; have := c11.1; simp; omega)
  refine Hx.mapp (Og.append (by_ := 40) t1 hv1 (by omega) (by omega) (trsC_one V) (by simp [room]; omega)) ?_
  rintro ⟨w2', Y2⟩ ⟨u1, u2, u3⟩
  simp only at u1 u2 u3
  have huv : trsC U ++ trsC V = trsC (U ++ V) := by simp [trsC]
  rw [huv] at u1
  have hs2 := u1.sl (by omega)
  obtain ⟨yi1, yi2, yi3, yi⟩ := ST.form hs2
  subst yi
  have hjb := joined_ok (k := k + 8) hs2 (by simp; omega) hUV (by simp; omega)
  simp only [List.length_append, tag_eq] at hjb
  simp
  refine Hx.mapp hjb ?_
  rintro ⟨r, Y3⟩ ⟨hj2, c12⟩
  simp only at hj2 c12
  obtain ⟨yj1, yj2, yj3, yj⟩ := ST.form hj2
  subst yj
  have hl1 : (jn ts).length ≤ 1000 := by have := jn_len ts ts.length (Nat.le_refl _); rw [List.take_length] at this; omega
  have hl2 : (jn (U ++ V)).length ≤ 1000 := by have := jn_len (U ++ V) (U ++ V).length (Nat.le_refl _); rw [List.take_length] at this; simp at this; omega
  have hlt1 : (jn ts).length ≤ 32 := by have := jn_len ts ts.length (Nat.le_refl _); rw [List.take_length] at this; omega
  have hj1' : ST Y3 (.slice yg1 (jn ts).reverse.length yg2 yg3) (jn ts).reverse := by
    refine SL.keep ?_ c12
    have n1 : ∀ i ∈ blk (AV.slice yg1 (jn ts).reverse.length yg2 yg3), i < H11.length := hj1.lt
    have q1 : ST Y1 _ _ := SL.chg (hj1.keep cY0) t2 (fun i hi => by have := n1 i hi; simp; omega)
    exact SL.chg q1 u2 (fun i hi h => by have := n1 i hi; have := t3' i h; omega)
  have hte := trades_eq (k := k + 8) hj1' hj2 (by simp; omega) (by simp; omega) (by simp; omega)
  have hdec : decide ((jn ts).reverse = (jn (U ++ V)).reverse) = true := by rw [hjn]; simp
  rw [hdec] at hte
  simp only [List.length_reverse] at hte
  simp [hte]
theorem matchTwice_main (H : AH) (ass : List (List AV)) (hl : ass.length = [27, 5].length) (ha : ∀ (i : Nat) t al, [27, 5][i]? = some t → ass[i]? = some al → AR ap 6 H t al) :
    Hx (callA ap 2000 (.func 7 [] []) (List.zipWith (argA ap) [27, 5] ass) 0 H) fun r => r.1 = .bool true := by
  match ass, hl with
  | [a0, a1], _ =>
    obtain ⟨v, L, rfl, h0, hL⟩ := ar_u64s (ha 0 27 a0 rfl rfl) ty27 rfl ty48 rfl rfl
    obtain ⟨c, rfl, w1⟩ := ar_int (ha 1 5 a1 rfl rfl) ty5 rfl
    simp only [List.zipWith_cons_cons, List.zipWith_nil_right, argA_one ty27 rfl, argA_one ty5 rfl]
    exact matchTwice_ok h0 hL (wf_u8 w1) (by omega)
end
end Go.Proofs.Ytjpmddjibeecbaa.T.Qu
end
