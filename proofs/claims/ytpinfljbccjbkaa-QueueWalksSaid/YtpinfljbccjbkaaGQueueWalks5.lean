import Derived.Test.YtpinfljbccjbkaaGL104
section
/-! QueueWalks. -/
set_option linter.unusedVariables false
set_option linter.unusedSimpArgs false
set_option maxHeartbeats 40000000
set_option maxRecDepth 100000
namespace Go.Proofs.Ytpinfljbccjbkaa.T.Qu
open Go Go.Ab
def isM (I S : Int) (x : Od) : Bool := decide (x.inst = I) && decide (x.side = S)
theorem walkN_count {l : List Od} {I S : Int} : ∀ n, n ≤ l.length → (walkN l I S n).length = ((l.take n).filter (isM I S)).length
  | 0, _ => by simp [walkN]
  | n + 1, hn => by
    have ih := walkN_count (l := l) (I := I) (S := S) n (by omega)
    have hnl : n < l.length := by omega
    rw [filter_take hnl, walkN, getd hnl, List.length_append]
    by_cases h : l[n].inst = I ∧ l[n].side = S
    · have : isM I S l[n] = true := by simp [isM, h]
      rw [if_pos h, insP_len, ih, this]
      simp
    · have : isM I S l[n] = false := by
        unfold isM
        by_cases h1 : l[n].inst = I
        · have : ¬ l[n].side = S := fun h2 => h ⟨h1, h2⟩
          simp [this]
        · simp [h1]
      rw [if_neg h, ih, this]
      simp
structure QI (H : AH) (own : List Od) (w0 : AV) (p8 p14 p17 p18 c : Nat) (w : AV) (want j : Nat) (X : AH) : Prop where
  h8 : X[p8]? = some (.cells [.bool false] .rw)
  h14 : X[p14]? = some (.cells [w0] .rw)
  h17 : X[p17]? = some (.cells [.int .i64 want] .rw)
  h18 : X[p18]? = some (.cells [.int .i64 j] .rw)
  hc : X[c]? = some (.cells [w] .rw)
  ho : OwnS X w own
  hw : SO X w0 own
  le : j ≤ want
section
variable {k p n : Nat} {H : AH}
theorem QI.keep {own : List Od} {w0 w : AV} {p8 p14 p17 p18 c want j : Nat} {X Y : AH} {F : List Nat} (h : QI H own w0 p8 p14 p17 p18 c w want j X) (cc : Chg F X Y) (hF : p8 ∉ F ∧ p14 ∉ F ∧ p17 ∉ F ∧ p18 ∉ F ∧ c ∉ F) (hw : ∀ i ∈ blk w, i ∉ F) (hw0 : ∀ i ∈ blk w0, i ∉ F) : QI H own w0 p8 p14 p17 p18 c w want j Y :=
  ⟨cc.get h.h8 hF.1, cc.get h.h14 hF.2.1, cc.get h.h17 hF.2.2.1, cc.get h.h18 hF.2.2.2.1, cc.get h.hc hF.2.2.2.2, h.ho.chg cc hw, SL.chg h.hw cc hw0, h.le⟩
theorem queueWalks_ok {v : AV} {L : List Int} {ci cs cm : Int} (h : SL H 1 v (u64s L)) (hL : ∀ x ∈ L, U64 x) (hi : 0 ≤ ci ∧ ci < 256) (hs : 0 ≤ cs ∧ cs < 256) (hm : 0 ≤ cm ∧ cm < 256) (hk : 1000 < k) : Hx (callA ap k (.func 4 [] []) [v, .int .u8 ci, .int .u8 cs, .int .u8 cm] 0 H) fun r => r.1 = .bool true := by
  obtain ⟨k, rfl⟩ : ∃ k', k = k' + 9 := ⟨k - 9, by omega⟩
  rw [hx_go fn4 rfl, b4]
  obtain ⟨va1, vc, vs, rfl⟩ := h.form1
  obtain ⟨G, eG⟩ : ∃ G, G = H ++ [.cells [.bool false] .rw] := ⟨_, rfl⟩
  have cG : Chg [] H G := by rw [eG]; exact .app _ _
  have gG : G[H.length]? = some (.cells [.bool false] .rw) := by rw [eG]; simp
  have lG : G.length = H.length + 1 := by rw [eG]; simp
  simp
  rw [← eG]
  refine Hx.mapp (known_ok (k := k + 8) (by omega)) ?_
  rintro ⟨r, H0⟩ ⟨e, c0⟩
  simp only at e c0
  subst e
  simp
  have h' := (h.keep cG).keep c0
  rw [u64s_len] at h'
  refine Hx.mapp (of_ok (k := k + 7) h' hL) ?_
  rintro ⟨r, H1⟩ ⟨e, d1, c1⟩
  simp only at e d1 c1
  subst e
  obtain ⟨p, hp⟩ : ∃ p, p = H0.length := ⟨_, rfl⟩
  rw [← hp] at d1 ⊢
  simp
  refine Hx.mapp (norders_ok (k := k + 8) (most := 32) d1 (by omega) (by omega) (by omega)) ?_
  rintro ⟨v0, H2⟩ ⟨os, id', hv, hdr, hlen, d2, c2, hb⟩
  simp only at hv d2 c2 hb
  obtain ⟨a0, c0', s0, e0⟩ := SO.form hv.sl
  subst e0
  have hrt := hdr.right hlen
  have hos := hv.sl
  have l0 := c0.1
  have g2 : H2[H.length]? = some (.cells [.bool false] .rw) := c2.get (c1.get (c0.get gG (by simp)) (by simp)) (by simp; omega)
  obtain ⟨I, eI⟩ : ∃ I : Int, I = ci % 3 := ⟨_, rfl⟩
  obtain ⟨S, eS⟩ : ∃ S : Int, S = 1 + cs % 2 := ⟨_, rfl⟩
  have hS : S = 1 ∨ S = 2 := by omega
  have hI : 0 ≤ I ∧ I < 3 := by omega
  have t1 : ci.tmod 3 = I := by rw [eI]; exact Int.tmod_eq_emod_of_nonneg hi.1
  have t2 : cs.tmod 2 = S - 1 := by rw [eS, Int.tmod_eq_emod_of_nonneg hs.1]; omega
  have w1 : IntKind.i64.wrap I = I := wrap_i64 (by omega) (by omega)
  have w2 : IntKind.i64.wrap (S - 1) = S - 1 := wrap_i64 (by omega) (by omega)
  have w3 : IntKind.i64.wrap (1 + (S - 1)) = S := by rw [wrap_i64 (by omega) (by omega)]; omega
  simp [t1, t2, w1, w2, w3]
  obtain ⟨W, eW⟩ : ∃ W, W = walkB os I S := ⟨_, rfl⟩
  have hWl : W.length = (os.filter (isM I S)).length := by
    rw [eW, walkB_eq hrt, walkN_count _ (Nat.le_refl _), List.take_length]
  have hW32 : W.length ≤ 32 := by rw [eW]; exact walkB_len
  refine hx_up (fun i st => ∃ H', st = ⟨sp 166 [(3, .int .u8 cm), (8, .ptr (some (H.length, 0))), (9, .slice a0 os.length c0' s0), (10, .int .i64 I), (11, .int .i64 S), (12, .int .i64 ((os.take i).filter (isM I S)).length), (13, .int .i64 i)], H', []⟩ ∧ Chg [] H2 H') os.length ?_ ?_ (by omega) ⟨H2, by simp [maskS], .refl⟩
  · rintro i st hi ⟨H3, rfl, c3⟩
    have hi' : (i : Int) < os.length := by omega
    have wi : IntKind.i64.wrap ((i : Int) + 1) = (i : Int) + 1 := wrap_i64 (by omega) (by omega)
    obtain ⟨b, ob, c', r, e, g0, gg⟩ := SO.all (hos.keep c3) (by intro h; simp [h] at hi)
    obtain ⟨z1, z2, z3, z4⟩ := AV.slice.inj e
    subst z1 z3 z4
    obtain ⟨g1, -, gf⟩ := gg i hi
    have hfil := filter_take (P := isM I S) hi
    obtain ⟨x, hxx⟩ : ∃ x, x = os[i] := ⟨_, rfl⟩
    rw [← hxx] at gf hfil
    have f2 := gf 2 (by omega)
    have f3 := gf 3 (by omega)
    simp only [Od.cs, List.getElem?_cons_zero, List.getElem?_cons_succ] at f2 f3
    obtain ⟨q, eq⟩ : ∃ q, q = ((os.take i).filter (isM I S)).length := ⟨_, rfl⟩
    have hq32 : q ≤ 32 := by rw [eq]; exact Nat.le_trans (List.length_filter_le _ _) (by simp; omega)
    have wq : IntKind.i64.wrap ((q : Int) + 1) = (q : Int) + 1 := wrap_i64 (by omega) (by omega)
    rw [← eq]
    by_cases h1 : x.inst = I
    · by_cases h2 : x.side = S
      · have : isM I S x = true := by simp [isM, h1, h2]
        rw [this, if_pos rfl] at hfil
        simp [hi', hi, g0, f2, f3, h1, h2, wq, maskS, wi]
        exact ⟨H3, ⟨by rw [hfil]; simp [← eq], rfl⟩, c3⟩
      · have : isM I S x = false := by simp [isM, h2]
        rw [this] at hfil
        simp only [Bool.false_eq_true, if_false, List.append_nil] at hfil
        simp [hi', hi, g0, f2, f3, h1, h2, maskS, wi]
        exact ⟨H3, ⟨by rw [hfil, ← eq], rfl⟩, c3⟩
    · have : isM I S x = false := by simp [isM, h1]
      rw [this] at hfil
      simp only [Bool.false_eq_true, if_false, List.append_nil] at hfil
      simp [hi', hi, g0, f2, h1, maskS, wi]
      exact ⟨H3, ⟨by rw [hfil, ← eq], rfl⟩, c3⟩
  · rintro st ⟨H3, rfl, c3⟩
    rw [List.take_length, ← hWl]
    simp
    refine Hx.mapp (walked_ok (k := k + 8) (inst := I) (side := S) (hos.keep c3) (by omega) (by omega)) ?_
    rintro ⟨w0, H4⟩ ⟨u, c4⟩
    simp only at u c4
    rw [← eW] at u
    obtain ⟨x5, y5, z5, ew0⟩ := SO.form u
    obtain ⟨G4, e4⟩ : ∃ G4, G4 = H4 ++ [.cells [w0] .rw] := ⟨_, rfl⟩
    have cG4 : Chg [] H4 G4 := by rw [e4]; exact .app _ _
    have g14 : G4[H4.length]? = some (.cells [w0] .rw) := by rw [e4]; simp
    have lG4 : G4.length = H4.length + 1 := by rw [e4]; simp
    have g8 : G4[H.length]? = some (.cells [.bool false] .rw) := (c3.tr (c4.tr cG4)).get g2 (by simp)
    have u4 := u.keep cG4
    have c24 : Chg [] H2 G4 := c3.tr (c4.tr cG4)
    have r14 := rowOf_rw g14
    rw [ew0] at r14 e4
    have hmem : ∀ x ∈ W, x.inst = I ∧ x.side = S := fun x hx => by rw [eW] at hx; exact ((mem_walkB hrt).1 hx).2
    have hsort : W.Pairwise Rs := by rw [eW]; exact walkB_rs hrt
    rw [ew0]
    simp
    rw [← e4]
    simp [r14]
    have hW0 : ∀ i ∈ blk w0, i < H4.length := u.lt
    refine hx_up (fun i st => ∃ H', st = ⟨sp 166 [(3, .int .u8 cm), (8, .ptr (some (H.length, 0))), (9, .slice a0 os.length c0' s0), (10, .int .i64 I), (11, .int .i64 S), (12, .int .i64 W.length), (14, .ptr (some (H4.length, 0))), (15, .int .i64 i)], H', []⟩ ∧ Chg [] G4 H') W.length ?_ ?_ (by omega) ⟨G4, by simp [maskS], .refl⟩
    · rintro i st hi ⟨H5, rfl, c5⟩
      have hi' : (i : Int) < W.length := by omega
      have wi : IntKind.i64.wrap ((i : Int) + 1) = (i : Int) + 1 := wrap_i64 (by omega) (by omega)
      obtain ⟨b, ob, c', r, e, g0, gg⟩ := SO.all (u4.keep c5) (by intro h; simp [h] at hi)
      rw [ew0] at e
      obtain ⟨z1, z2, z3, z4⟩ := AV.slice.inj e
      subst z1 z3 z4
      have gf := (gg i hi).2.2
      obtain ⟨x, hxx⟩ : ∃ x, x = W[i] := ⟨_, rfl⟩
      rw [← hxx] at gf
      have f0 := gf 0 (by omega)
      have f2 := gf 2 (by omega)
      have f3 := gf 3 (by omega)
      have f5 := gf 5 (by omega)
      simp only [Od.cs, Nat.add_zero, List.getElem?_cons_zero, List.getElem?_cons_succ] at f0 f2 f3 f5
      have hx := hmem x (by rw [hxx]; exact List.getElem_mem hi)
      have r5 := c5.row r14 (by simp)
      rcases (show i = 0 ∨ ∃ m, i = m + 1 by cases i with | zero => exact .inl rfl | succ m => exact .inr ⟨m, rfl⟩) with h00 | ⟨m, hm'⟩
      · subst h00
        have w0' : IntKind.i64.wrap 1 = 1 := rfl
        simp [hi', hi, r5, g0, f2, f3, hx.1, hx.2, maskS, w0']
        exact c5
      · have hml : m < W.length := by omega
        have hml' : (m : Int) < W.length := by omega
        have hi0 : ¬ (i : Int) = 0 := by omega
        have hi0' : ¬ i = 0 := by omega
        have wm : IntKind.i64.wrap ((i : Int) - 1) = (m : Int) := by rw [wrap_i64 (by omega) (by omega)]; omega
        obtain ⟨y, hyy⟩ : ∃ y, y = W[m] := ⟨_, rfl⟩
        have ef := (gg m hml).2.2
        rw [← hyy] at ef
        have e0 := ef 0 (by omega)
        have e5 := ef 5 (by omega)
        simp only [Od.cs, Nat.add_zero, List.getElem?_cons_zero, List.getElem?_cons_succ] at e0 e5
        have hyx : Rs y x := by
          rw [hxx, hyy]
          exact List.pairwise_iff_getElem.1 hsort m i hml hi (by omega)
        have hy := hmem y (by rw [hyy]; exact List.getElem_mem hml)
        have hn : ∀ v : Nat, v < m + 1 → True := fun _ _ => trivial
        clear hm'
        unfold Rs betterB at hyx
        rw [hy.2] at hyx
        simp [hi', hi, r5, g0, f2, f3, hx.1, hx.2, hi0, hi0']
        refine hx_drawn dc4_20 fun X cX _ _ => ?_
        have rX := cX.row r5 (by simp)
        have gX := cX.row g0 (by simp)
        rcases hS with s1 | s1
        · simp only [s1, if_true, decide_eq_true_eq] at hyx
          have n2 : ¬ S = 2 := by omega
          by_cases hb : x.p < y.p
          · simp [d4_20, hi', hi, hml, hml', wm, rX, gX, e5, f5, n2, hb]
            refine hx_drawn dc4_23 fun Y cY _ _ => ?_
            simp [d4_23, maskS, wi]
            exact c5.tr (cX.tr cY)
          · have hq : y.p = x.p ∧ y.id < x.id := by omega
            have n3 : ¬ x.id ≤ y.id := by omega
            simp [d4_20, hi', hi, hml, hml', wm, rX, gX, e5, f5, n2, hb]
            refine hx_drawn dc4_23 fun Y cY _ _ => ?_
            have rY := cY.row rX (by simp)
            have gY := cY.row gX (by simp)
            simp [d4_23, hi', hi, hml, hml', wm, rY, gY, e0, e5, f0, f5, hq.1, n3, maskS, wi]
            exact c5.tr (cX.tr cY)
        · have n1 : ¬ S = 1 := by omega
          simp only [n1, if_false, decide_eq_true_eq] at hyx
          by_cases hb : y.p < x.p
          · simp [d4_20, hi', hi, hml, hml', wm, rX, gX, e5, f5, s1]
            refine hx_drawn dc4_22 fun Z cZ _ _ => ?_
            have rZ := cZ.row rX (by simp)
            have gZ := cZ.row gX (by simp)
            simp [d4_22, hi', hi, hml, hml', wm, rZ, gZ, e5, f5, hb]
            refine hx_drawn dc4_23 fun Y cY _ _ => ?_
            simp [d4_23, maskS, wi, s1]
            exact c5.tr (cX.tr (cZ.tr cY))
          · have hq : y.p = x.p ∧ y.id < x.id := by omega
            have n3 : ¬ x.id ≤ y.id := by omega
            simp [d4_20, hi', hi, hml, hml', wm, rX, gX, e5, f5, s1]
            refine hx_drawn dc4_22 fun Z cZ _ _ => ?_
            have rZ := cZ.row rX (by simp)
            have gZ := cZ.row gX (by simp)
            simp [d4_22, hi', hi, hml, hml', wm, rZ, gZ, e5, f5, hb]
            refine hx_drawn dc4_23 fun Y cY _ _ => ?_
            have rY := cY.row rZ (by simp)
            have gY := cY.row gZ (by simp)
            simp [d4_23, hi', hi, hml, hml', wm, rY, gY, e0, e5, f0, f5, hq.1, n3, maskS, wi, s1]
            exact c5.tr (cX.tr (cZ.tr cY))
    · rintro st ⟨H5, rfl, c5⟩
      obtain ⟨want, ew⟩ : ∃ want : Nat, want = min cm.toNat W.length := ⟨_, rfl⟩
      have wc : IntKind.i64.wrap cm = cm := wrap_i64 (by omega) (by omega)
      have hmin : amm1 false .i64 cm [.int .i64 W.length] = some (.int .i64 want) := by
        by_cases h : (W.length : Int) < cm
        · simp [amm1, h]; omega
        · simp [amm1, h]; omega
      obtain ⟨G6, e6⟩ : ∃ G6, G6 = H5 ++ [.cells [.int .i64 want] .rw, .cells [.int .i64 0] .rw] := ⟨_, rfl⟩
      have cG6 : Chg [] H5 G6 := by rw [e6]; exact .app _ _
      have g17 : G6[H5.length]? = some (.cells [.int .i64 want] .rw) := by rw [e6]; simp
      have g18 : G6[H5.length + 1]? = some (.cells [.int .i64 0] .rw) := by rw [e6]; simp
      have lG6 : G6.length = H5.length + 2 := by rw [e6]; simp
      simp [wc, amm, hmin]
      rw [← e6]
      refine Hx.mapp (walk_ok (k := k + 8) (inst := I) (side := S) (hos.keep (c24.tr (c5.tr cG6))) (by omega) (by omega)) ?_
      rintro ⟨g, H7⟩ ⟨cw, w, eg, c7, hcw, gw, how, hbw⟩
      simp only at eg c7 hcw gw how hbw
      subst eg
      rw [← eW] at how
      have hBw : ∀ i ∈ blk w, i < H7.length := how.so.lt
      have lcw := lt_of_get gw
      have l5 : H4.length + 1 ≤ H5.length := by have := c5.1; omega
      have l8 : H.length < H4.length := by have := lt_of_get g2; have := c3.1; have := c4.1; omega
      have l7 := c7.1
      have hq0 : QI H W w0 H.length H4.length H5.length (H5.length + 1) cw w want 0 H7 :=
        ⟨c7.get (cG6.get (c5.get g8 (by simp)) (by simp)) (by simp), c7.get (cG6.get (c5.get g14 (by simp)) (by simp)) (by simp), c7.get g17 (by simp), c7.get g18 (by simp), gw, how, ((u4.keep c5).keep cG6).keep c7, by omega⟩
      have hls : ∀ {j : Nat} {X Y : AH}, QI H W w0 H.length H4.length H5.length (H5.length + 1) cw w want j X → LS (H7.length + 1) X Y → QI H W w0 H.length H4.length H5.length (H5.length + 1) cw w want j Y := fun hm cc =>
        hm.keep cc.1 (by simp; omega) (fun i hi => by have := hBw i hi; simp; omega) (fun i hi => by have := hW0 i hi; simp; omega)
      have hwant : want ≤ W.length := by omega
      simp
      refine hx_rangeG (fun j _ a => a = [.agg (W.getD j dO).cs]) (fun X => X[cw]? = some (.cells [w] .rw) ∧ OwnS X w W)
        (fun j X => QI H W w0 H.length H4.length H5.length (H5.length + 1) cw w want j X) (fun x X => x = .exit 4 ∧ QI H W w0 H.length H4.length H5.length (H5.length + 1) cw w want want X) (n := W.length) rfl (walk1_goes (by omega) (by omega))
        ?_ ?_ (fun j X hm => ⟨hm.hc, hm.ho⟩) (fun j X a e => by rw [e]; rfl) hq0 ?_ ?_ ?_
      · rintro j X Y hm (c | c)
        · exact hm.keep c (by simp) (by simp) (by simp)
        · exact hls hm c
      · rintro x X Y ⟨hx, hm⟩ (c | c)
        · exact ⟨hx, hm.keep c (by simp) (by simp) (by simp)⟩
        · exact ⟨hx, hls hm c⟩
      · rintro j hj X a hIX rfl hl1 hd1
        obtain ⟨x, hx⟩ : ∃ x, x = W.getD j dO := ⟨_, rfl⟩
        have hxj : x = W[j] := by rw [hx, getd hj]
        rw [← hx]
        unfold as4_0
        simp [setL, Od.cs]
        refine ⟨.app _ _, fun Y hls' hlY hdY hm ms => ?_⟩
        have hXB : H7.length < X.length := lt_of_get hd1
        have r19 : rowOf Y X.length = some _ := hls'.row (H := X ++ [.cells x.cs .rw]) (by simp [Od.cs]; rfl)
        have r17 := rowOf_rw hm.h17
        have r18 := rowOf_rw hm.h18
        unfold bd4_0
        by_cases hjw : j = want
        · subst hjw
          simp [r17, r18]
          exact hm
        · have hjw' : ¬ (j : Int) = want := by omega
          simp [r17, r18, hjw']
          refine hx_drawn dc4_29 fun Z cZ _ _ => ?_
          have z19 := cZ.row r19 (by simp)
          have z18 := cZ.row r18 (by simp)
          have hmZ := hm.keep cZ (by simp) (by simp) (by simp)
          have z14 := rowOf_rw hmZ.h14
          have gz18 := hmZ.h18
          have wz18 : rowRw Z 0 (H5.length + 1) = some _ := rowRw_rw gz18
          obtain ⟨b, ob, c', r, e, g0, gg⟩ := SO.all hmZ.hw (by intro h; simp [h] at hj)
          rw [e] at z14
          obtain ⟨g1, g2', -⟩ := gg j hj
          rw [← hxj] at g2'
          have hj' : (j : Int) < W.length := by omega
          have wj : IntKind.i64.wrap ((j : Int) + 1) = (j : Int) + 1 := wrap_i64 (by omega) (by omega)
          have heq := @eqOd x x
          simp only [Od.cs] at g2'
          simp [d4_29, z19, z18, z14, hj', hj, g0, g1, g2', eqV, heq, wz18, wj]
          obtain ⟨A, eA⟩ : ∃ A, Y[H7.length + 1]? = some A := by
            cases hY : Y[H7.length + 1]? with
            | none =>
              have : isLoop Y[H7.length + 1]? := hlY
              rw [hY] at this
              exact this.elim
            | some A => exact ⟨A, rfl⟩
          have zA := cZ.get eA (by simp)
          have zD := cZ.get hdY (by simp)
          have hle := hm.le
          refine ⟨by rw [List.getElem?_set_ne (by omega), zA, eA], by rw [List.getElem?_set_ne (by omega), zD, hdY], ?_⟩
          have c9 : Chg [H5.length + 1] Z (Z.set (H5.length + 1) (.cells [.int .i64 ((j : Int) + 1)] .rw)) := .set _ _ _
          exact ⟨c9.get hmZ.h8 (by simp; omega), c9.get hmZ.h14 (by simp; omega), c9.get hmZ.h17 (by simp), List.getElem?_set_self (lt_of_get gz18), c9.get hmZ.hc (by simp; omega), hmZ.ho.chg c9 (fun i hi => by have := hbw i hi; simp; omega), SL.chg hmZ.hw c9 (fun i hi => by have := hW0 i hi; simp; omega), by omega⟩
      · rintro X hm hd
        have hle := hm.le
        have hwW : want = W.length := by omega
        have r17 := rowOf_rw hm.h17
        have r18 := rowOf_rw hm.h18
        have g8' := hm.h8
        have w8 : rowRw X 0 H.length = some _ := rowRw_rw g8'
        have l8' := lt_of_get g8'
        have hdd : (X.set H.length (.cells [.bool true] .rw))[H7.length]? = some (.deferred false) := by rw [List.getElem?_set_ne (by omega)]; exact hd
        have hr8 : rowOf ((X.set H.length (.cells [.bool true] .rw)).set H7.length (.deferred true)) H.length = some [.bool true] := by
          refine rowOf_rw ?_
          rw [List.getElem?_set_ne (by omega), List.getElem?_set_self l8']
        simp [r17, r18, w8, hwW, hdd, hr8]
      · rintro x X hx ⟨rfl, hm⟩ hd
        have r17 := rowOf_rw hm.h17
        have r18 := rowOf_rw hm.h18
        have g8' := hm.h8
        have w8 : rowRw X 0 H.length = some _ := rowRw_rw g8'
        have l8' := lt_of_get g8'
        have hdd : (X.set H.length (.cells [.bool true] .rw))[H7.length]? = some (.deferred false) := by rw [List.getElem?_set_ne (by omega)]; exact hd
        have hr8 : rowOf ((X.set H.length (.cells [.bool true] .rw)).set H7.length (.deferred true)) H.length = some [.bool true] := by
          refine rowOf_rw ?_
          rw [List.getElem?_set_ne (by omega), List.getElem?_set_self l8']
        simp [r17, r18, w8, hdd, hr8]
theorem queueWalks_main (H : AH) (ass : List (List AV)) (hl : ass.length = [22, 5, 5, 5].length) (ha : ∀ (i : Nat) t al, [22, 5, 5, 5][i]? = some t → ass[i]? = some al → AR ap 6 H t al) :
    Hx (callA ap 2000 (.func 4 [] []) (List.zipWith (argA ap) [22, 5, 5, 5] ass) 0 H) fun r => r.1 = .bool true := by
  match ass, hl with
  | [a0, a1, a2, a3], _ =>
    obtain ⟨v, L, rfl, h0, hL⟩ := ar_u64s (ha 0 22 a0 rfl rfl) ty22 rfl ty58 rfl rfl
    obtain ⟨c1, rfl, w1⟩ := ar_int (ha 1 5 a1 rfl rfl) ty5 rfl
    obtain ⟨c2, rfl, w2⟩ := ar_int (ha 2 5 a2 rfl rfl) ty5 rfl
    obtain ⟨c3, rfl, w3⟩ := ar_int (ha 3 5 a3 rfl rfl) ty5 rfl
    simp only [List.zipWith_cons_cons, List.zipWith_nil_right, argA_one ty22 rfl, argA_one ty5 rfl]
    exact queueWalks_ok h0 hL (wf_u8 w1) (wf_u8 w2) (wf_u8 w3) (by omega)
end
end Go.Proofs.Ytpinfljbccjbkaa.T.Qu
end
