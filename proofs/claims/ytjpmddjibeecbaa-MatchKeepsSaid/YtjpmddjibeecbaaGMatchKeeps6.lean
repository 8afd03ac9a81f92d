import Derived.Test.YtjpmddjibeecbaaGQ205
section
/-! MatchKeeps. -/
set_option linter.unusedVariables false
set_option linter.unusedSimpArgs false
set_option maxHeartbeats 40000000
set_option maxRecDepth 100000
namespace Go.Proofs.Ytjpmddjibeecbaa.T.Qu
open Go Go.Ab
section
variable {k p n : Nat} {H : AH}
theorem matchKeeps_ok {v : AV} {L : List Int} (h : SL H 1 v (u64s L)) (hL : ∀ x ∈ L, U64 x) (hk : 1000 < k) : Hx (callA ap k (.func 5 [] []) [v] 0 H) fun r => r.1 = .bool true := by
  obtain ⟨k, rfl⟩ : ∃ k', k = k' + 9 := ⟨k - 9, by omega⟩
  rw [hx_go fn5 rfl, b5]
  have hkn := fun H => knownK (K := k + 8) (H := H) (by omega)
  simp [hkn]
  refine Hx.mapp (of_ok (k := k + 7) h hL) ?_
  rintro ⟨r, H1⟩ ⟨e, d1, c1⟩
  simp only at e d1 c1
  subst e
  obtain ⟨p, hp⟩ : ∃ p, p = H.length := ⟨_, rfl⟩
  rw [← hp] at d1 ⊢
  simp
  refine Hx.mapp (norders_ok (k := k + 8) (most := 32) d1 (by omega) (by omega) (by omega)) ?_
  rintro ⟨v0, H2⟩ ⟨os, id, hv, hdr, hlen, d2, c2, hb⟩
  simp only at hv d2 c2 hb
  obtain ⟨a0, c0, s0, e0⟩ := SO.form hv.sl
  subst e0
  simp
  refine Hx.mapp (n_ok (k := k + 6) d2 (by omega) (m := 6) (by omega) (by omega)) ?_
  rintro ⟨r, H3⟩ ⟨x1, e, hx1, d3, c3⟩
  simp only at e d3 c3
  subst e
  have w1 : IntKind.i64.wrap (1 + x1) = 1 + x1 := wrap_i64 (by omega) (by omega)
  simp [w1]
  refine Hx.mapp (n_ok (k := k + 6) d3 (by omega) (m := 2) (by omega) (by omega)) ?_
  rintro ⟨r, H4⟩ ⟨x2, e, hx2, d4, c4⟩
  simp only at e d4 c4
  subst e
  simp
  refine Hx.mapp (n_ok (k := k + 6) d4 (by omega) (m := 2) (by omega) (by omega)) ?_
  rintro ⟨r, H5⟩ ⟨x3, e, hx3, d5, c5⟩
  simp only at e d5 c5
  subst e
  have w3 : IntKind.i64.wrap (1 + x3) = 1 + x3 := wrap_i64 (by omega) (by omega)
  simp [w3]
  refine Hx.mapp (n_ok (k := k + 6) d5 (by omega) (m := 100) (by omega) (by omega)) ?_
  rintro ⟨r, H6⟩ ⟨x4, e, hx4, d6, c6⟩
  simp only at e d6 c6
  subst e
  have w4 : IntKind.i64.wrap (1 + x4) = 1 + x4 := wrap_i64 (by omega) (by omega)
  simp [w4]
  refine Hx.mapp (n_ok (k := k + 6) d6 (by omega) (m := 20) (by omega) (by omega)) ?_
  rintro ⟨r, H7⟩ ⟨x5, e, hx5, d7, c7⟩
  simp only at e d7 c7
  subst e
  have w5 : IntKind.i64.wrap (90 + x5) = 90 + x5 := wrap_i64 (by omega) (by omega)
  have c27 : Chg [p] H2 H7 := c3.tr' (c4.tr' (c5.tr' (c6.tr' c7)))
  obtain ⟨o, eo⟩ : ∃ o : Od, o = ⟨999, 1 + x1, x2, 1 + x3, 1 + x4, 90 + x5⟩ := ⟨_, rfl⟩
  have hro : rightO o = true := by
    rw [eo]; unfold rightO
    simp only [Bool.and_eq_true, Bool.or_eq_true, decide_eq_true_eq]
    omega
  have hos : o.side = 1 ∨ o.side = 2 := (right_q hro).2.2
  obtain ⟨G, eG⟩ : ∃ G, G = H7 ++ [.cells o.cs .rw] := ⟨_, rfl⟩
  have cG : Chg [] H7 G := by rw [eG]; exact .app _ _
  have rG : rowOf G H7.length = some o.cs := by rw [eG]; simp [Od.cs]
  have hosG : SO G (.slice a0 os.length c0 s0) os := ((hv.chg c27 (fun i hi => by have := hb i hi; have := d1.lt; simp; omega)).sl).keep cG
  have hm := match_ok (k := k + 8) (o := o) hosG (by omega) (by omega)
  obtain ⟨B, ts, left, ⟨ra, em, left0, rb, each, hlt, hup, hsum, hwas, hfrom⟩⟩ := kept (hdr.right hlen) hro
  rw [em] at hm
  have eG' := eG
  have rG' := rG
  have hm' := hm
  simp only [Od.cs, eo, tag_eq] at eG rG' hm
  simp [w5]
  rw [← eG]
  refine Hx.mapp hm ?_
  rintro ⟨r, H8⟩ ⟨vr, vt, e, hr, ht, c8, hbr⟩
  simp only at e hr ht c8
  subst e
  obtain ⟨x1', x2', x3', ex⟩ := SO.form hr
  obtain ⟨y1, y2, y3, ey⟩ := ST.form ht
  subst ex ey
  have hrr := right_ok (k := k + 8) hr (by have := (rightL_mem rb).2; omega) (by have := (rightL_mem rb).2; omega)
  rw [rb] at hrr
  have hl0 : ¬ left < 0 := by omega
  simp [hrr, hl0]
  have hsl := SO.form hr
  have c8' := c8
  have rG8 := c8.row rG (by simp)
  have hos8 := hosG.keep c8
  have hq9 : ∀ x ∈ ts.map Tr.q, 0 ≤ x ∧ x ≤ 1000000000 := fun x hx => by
    obtain ⟨t, ht, rfl⟩ := List.mem_map.1 hx
    have := (each t ht).q; omega
  have hsb := sum_bound hq9
  refine hx_up (fun i st => ∃ H', st = ⟨sp 303 [(4, .slice a0 os.length c0 s0), (5, .ptr (some (H7.length, 0))), (6, .slice x1' B.length x2' x3'), (7, .slice y1 ts.length y2 y3), (8, .int .i64 left), (10, .int .i64 ((ts.map Tr.q).take i).sum), (11, .int .i64 i)], H', []⟩ ∧ Chg [] H8 H') ts.length ?_ ?_ (by omega) ⟨H8, by simp [maskS], .refl⟩
  · rintro i st hi ⟨H9, rfl, c9⟩
    have hi' : (i : Int) < ts.length := by omega
    have wi : IntKind.i64.wrap ((i : Int) + 1) = (i : Int) + 1 := wrap_i64 (by omega) (by omega)
    obtain ⟨b, ob, c', r, e, g0, gg⟩ := ST.all (ht.keep c9) (by intro h; simp [h] at hi)
    obtain ⟨z1, z2, z3, z4⟩ := AV.slice.inj e
    subst z1 z3 z4
    obtain ⟨g1, g2, g3⟩ := gg i hi
    obtain ⟨t, et⟩ : ∃ t, t = ts[i] := ⟨_, rfl⟩
    rw [← et] at g2 g3
    have hte := each t (by rw [et]; exact List.getElem_mem hi)
    obtain ⟨q1, q2, q3, q4, q5⟩ := hte
    have f0 := g3 0 (by omega)
    have f1 := g3 1 (by omega)
    have f2 := g3 2 (by omega)
    have f3 := g3 3 (by omega)
    have f4 := g3 4 (by omega)
    simp only [Tr.cs, Nat.add_zero, List.getElem?_cons_zero, List.getElem?_cons_succ] at f0 f1 f2 f3 f4
    have hs1 := hsb i
    have hs2 := hsb (i + 1)
    have hsu : ((ts.map Tr.q).take (i + 1)).sum = ((ts.map Tr.q).take i).sum + t.q := by rw [sum_up _ (by simpa using hi)]; simp [et]
    have ws : IntKind.i64.wrap (((ts.map Tr.q).take i).sum + t.q) = ((ts.map Tr.q).take (i + 1)).sum := by rw [hsu] at hs2 ⊢; exact wrap_i64 (by omega) (by omega)
    simp [hi', hi, g0, f3, ws]
    refine hx_drawn dc5_14 fun X cX _ _ => ?_
    have gX := cX.row g0 (by simp)
    have rX := (c9.tr cX).row rG8 (by simp)
    have nq : ¬ t.q < 1 := by omega
    have hseq : ∀ j, j < 5 → True := fun _ _ => trivial
    simp only [Od.cs] at rX
    have nn : ¬ t.b = t.s := q3
    rcases hos with hs | hs
    · obtain ⟨k1, k2⟩ := q4 hs
      have k3 : ¬ o.p < t.p := by omega
      have nn' : ¬ o.acc = t.s := by rw [← k1]; exact nn
      rw [hs] at rX
      simp [d5_14, hi', hi, gX, f0, f1, f2, f3, f4, rX, nq, q2, nn', k1, k3]
      refine hx_drawn dc5_16 fun Y cY _ _ => ?_
      have gY := cY.row gX (by simp)
      have rY := cY.row rX (by simp)
      have cc : Chg [] H8 Y := c9.tr (cX.tr cY)
      rcases (show i = 0 ∨ ∃ j, i = j + 1 by cases i with | zero => exact .inl rfl | succ j => exact .inr ⟨j, rfl⟩) with h0 | ⟨j, hj⟩
      · have hi0 : ¬ 0 < i := by omega
        simp [d5_16, hi0, rY, maskS, wi]
        exact cc
      · subst hj
        obtain ⟨u, eu⟩ : ∃ u, u = ts[j] := ⟨_, rfl⟩
        have e4 := (gg j (by omega)).2.2 4 (by omega)
        rw [← eu] at e4
        simp only [Tr.cs, List.getElem?_cons_zero, List.getElem?_cons_succ] at e4
        have hpp := hup j hi
        rw [← et, ← eu] at hpp
        have hno : ¬ t.p < u.p := by have := hpp.1 hs; omega
        have hjl : j < ts.length := by omega
        have hjl' : (j : Int) < ts.length := by omega
        have hp0 : (0 : Int) < (j : Int) + 1 := by omega
        have hj1 : (0 : Int) ≤ (j : Int) + 1 := by omega
        have ht1 : ((j : Int) + 1).toNat = j + 1 := by omega
        have wj : IntKind.i64.wrap (j : Int) = (j : Int) := wrap_i64 (by omega) (by omega)
        have wj1 : IntKind.i64.wrap ((j : Int) + 1 - 1) = (j : Int) := by rw [wrap_i64 (by omega) (by omega)]; omega
        simp only [Int.natCast_add, Int.cast_ofNat_Int] at hi' wi
        simp [d5_16, hp0, hj1, ht1, rY, gY, hi', hi, hjl, hjl', wj, wj1, e4, f4, hno, maskS, wi]
        exact cc
    · obtain ⟨k1, k2⟩ := q5 hs
      have k3 : ¬ t.p < o.p := by omega
      have nn' : ¬ t.b = o.acc := by rw [← k1]; exact nn
      rw [hs] at rX
      simp [d5_14, hi', hi, gX, f0, f1, f2, f3, f4, rX, nq, q2, nn', k1, k3]
      refine hx_drawn dc5_16 fun Y cY _ _ => ?_
      have gY := cY.row gX (by simp)
      have rY := cY.row rX (by simp)
      have cc : Chg [] H8 Y := c9.tr (cX.tr cY)
      rcases (show i = 0 ∨ ∃ j, i = j + 1 by cases i with | zero => exact .inl rfl | succ j => exact .inr ⟨j, rfl⟩) with h0 | ⟨j, hj⟩
      · have hi0 : ¬ 0 < i := by omega
        simp [d5_16, hi0, rY, maskS, wi]
        exact cc
      · subst hj
        obtain ⟨u, eu⟩ : ∃ u, u = ts[j] := ⟨_, rfl⟩
        have e4 := (gg j (by omega)).2.2 4 (by omega)
        rw [← eu] at e4
        simp only [Tr.cs, List.getElem?_cons_zero, List.getElem?_cons_succ] at e4
        have hpp := hup j hi
        rw [← et, ← eu] at hpp
        have hno : ¬ u.p < t.p := by have := hpp.2 hs; omega
        have hjl : j < ts.length := by omega
        have hjl' : (j : Int) < ts.length := by omega
        have hp0 : (0 : Int) < (j : Int) + 1 := by omega
        have hj1 : (0 : Int) ≤ (j : Int) + 1 := by omega
        have ht1 : ((j : Int) + 1).toNat = j + 1 := by omega
        have wj : IntKind.i64.wrap (j : Int) = (j : Int) := wrap_i64 (by omega) (by omega)
        have wj1 : IntKind.i64.wrap ((j : Int) + 1 - 1) = (j : Int) := by rw [wrap_i64 (by omega) (by omega)]; omega
        simp only [Int.natCast_add, Int.cast_ofNat_Int] at hi' wi
        simp [d5_16, hp0, hj1, ht1, rY, gY, hi', hi, hjl, hjl', wj, wj1, e4, f4, hno, maskS, wi]
        exact cc
  · rintro st ⟨H9, rfl, c9⟩
    obtain ⟨S, eS⟩ : ∃ S, S = ((ts.map Tr.q).take ts.length).sum := ⟨_, rfl⟩
    have eS2 : S = (ts.map Tr.q).sum := by rw [eS, List.take_of_length_le (by simp)]
    rw [← eS]
    have hS := hsb ts.length
    rw [← eS] at hS
    have hqa : ∀ x ∈ os.map Od.q, 0 ≤ x ∧ x ≤ 1000000000 := fun x hx => by
      obtain ⟨t, ht, rfl⟩ := List.mem_map.1 hx
      have := right_q ((rightL_mem ra).1 t ht); omega
    have hsa := sum_bound hqa
    have hqb : ∀ x ∈ B.map Od.q, 0 ≤ x ∧ x ≤ 1000000000 := fun x hx => by
      obtain ⟨t, ht, rfl⟩ := List.mem_map.1 hx
      have := right_q ((rightL_mem rb).1 t ht); omega
    have hsbb := sum_bound hqb
    have hBl := (rightL_mem rb).2
    simp
    refine hx_up (fun i st => ∃ H', st = ⟨sp 303 [(4, .slice a0 os.length c0 s0), (5, .ptr (some (H7.length, 0))), (6, .slice x1' B.length x2' x3'), (8, .int .i64 left), (10, .int .i64 S), (12, .int .i64 ((os.map Od.q).take i).sum), (13, .int .i64 0), (14, .int .i64 i)], H', []⟩ ∧ Chg [] H8 H') os.length ?_ ?_ (by omega) ⟨H9, by simp [maskS], c9⟩
    · rintro i st hi ⟨H10, rfl, c10⟩
      have hi' : (i : Int) < os.length := by omega
      have wi : IntKind.i64.wrap ((i : Int) + 1) = (i : Int) + 1 := wrap_i64 (by omega) (by omega)
      obtain ⟨b, ob, c', r, e, g0, gg⟩ := SO.all (hos8.keep c10) (by intro h; simp [h] at hi)
      obtain ⟨z1, z2, z3, z4⟩ := AV.slice.inj e
      subst z1 z3 z4
      obtain ⟨g1, g2, g3⟩ := gg i hi
      obtain ⟨t, et⟩ : ∃ t, t = os[i] := ⟨_, rfl⟩
      rw [← et] at g2 g3
      have f4 := g3 4 (by omega)
      simp only [Od.cs, Nat.add_zero, List.getElem?_cons_zero, List.getElem?_cons_succ] at f4
      have hs1 := hsa i
      have hs2 := hsa (i + 1)
      have hsu : ((os.map Od.q).take (i + 1)).sum = ((os.map Od.q).take i).sum + t.q := by rw [sum_up _ (by simpa using hi)]; simp [et]
      have ws : IntKind.i64.wrap (((os.map Od.q).take i).sum + t.q) = ((os.map Od.q).take (i + 1)).sum := by rw [hsu] at hs2 ⊢; exact wrap_i64 (by omega) (by omega)
      simp [hi', hi, g0, f4, ws, maskS, wi]
      exact c10
    · rintro st ⟨H10, rfl, c10⟩
      obtain ⟨A, eA⟩ : ∃ A, A = ((os.map Od.q).take os.length).sum := ⟨_, rfl⟩
      have eA2 : A = sumq os := by rw [eA, List.take_of_length_le (by simp)]; rfl
      rw [← eA]
      have hA := hsa os.length
      rw [← eA] at hA
      simp
      refine hx_up (fun i st => ∃ (H' : AH) (j : Nat), st = ⟨sp 303 [(4, .slice a0 os.length c0 s0), (5, .ptr (some (H7.length, 0))), (6, .slice x1' B.length x2' x3'), (8, .int .i64 left), (10, .int .i64 S), (12, .int .i64 A), (13, .int .i64 ((B.map Od.q).take i).sum), (15, .int .i64 j), (16, .int .i64 i)], H', []⟩ ∧ Chg [] H8 H' ∧ j ≤ os.length ∧ ∀ y ∈ B.drop i, ∀ m (hm : m < os.length), os[m].id = y.id → j ≤ m) B.length ?_ ?_ (by omega) ⟨H10, 0, by simp [maskS], c10, by omega, by simp⟩
      · rintro i st hi ⟨H11, j, rfl, c11, hjl, hjm⟩
        have hi' : (i : Int) < B.length := by omega
        have wi : IntKind.i64.wrap ((i : Int) + 1) = (i : Int) + 1 := wrap_i64 (by omega) (by omega)
        obtain ⟨b, ob, c', r, e, g0, gg⟩ := SO.all (hr.keep c11) (by intro h; simp [h] at hi)
        obtain ⟨z1, z2, z3, z4⟩ := AV.slice.inj e
        subst z1 z3 z4
        obtain ⟨g1, g2, g3⟩ := gg i hi
        obtain ⟨t, et⟩ : ∃ t, t = B[i] := ⟨_, rfl⟩
        rw [← et] at g2 g3
        have f0 := g3 0 (by omega)
        have f1 := g3 1 (by omega)
        have f3 := g3 3 (by omega)
        have f4 := g3 4 (by omega)
        have f5 := g3 5 (by omega)
        simp only [Od.cs, Nat.add_zero, List.getElem?_cons_zero, List.getElem?_cons_succ] at f0 f1 f3 f4 f5
        have hs1 := hsbb i
        have hs2 := hsbb (i + 1)
        have hsu : ((B.map Od.q).take (i + 1)).sum = ((B.map Od.q).take i).sum + t.q := by rw [sum_up _ (by simpa using hi)]; simp [et]
        have ws : IntKind.i64.wrap (((B.map Od.q).take i).sum + t.q) = ((B.map Od.q).take (i + 1)).sum := by rw [hsu] at hs2 ⊢; exact wrap_i64 (by omega) (by omega)
        have htB : t ∈ B := by rw [et]; exact List.getElem_mem hi
        have htd : B.drop i = t :: B.drop (i + 1) := by rw [List.drop_eq_getElem_cons hi, et]
        obtain ⟨x, hx, h0, h1, h2, h3, h4⟩ := hfrom t htB
        obtain ⟨m, hml, ex⟩ := List.getElem_of_mem hx
        have hjm0 : j ≤ m := hjm t (by rw [htd]; simp) m hml (by rw [ex]; exact h0)
        simp [hi', hi, g0, f4, ws]
        refine hx_down (fun d st => ∃ (H' : AH) (j : Nat), st = ⟨sp 303 [(4, .slice a0 os.length c0 s0), (5, .ptr (some (H7.length, 0))), (6, .slice (some (b, ob)) B.length x2' 6), (8, .int .i64 left), (10, .int .i64 S), (12, .int .i64 A), (13, .int .i64 ((B.map Od.q).take (i + 1)).sum), (15, .int .i64 j), (16, .int .i64 i)], H', []⟩ ∧ Chg [] H11 H' ∧ j + d = m) (j := m - j) ?_ (by omega) ⟨H11, j, by simp [maskS], .refl, by omega⟩
        rintro d st ⟨H12, j', rfl, c12, hjd⟩
        simp
        refine hx_drawn dc5_28 fun X cX _ _ => ?_
        have cX' := c12.tr cX
        obtain ⟨b2, ob2, c2', r2, e2, k0, kk⟩ := SO.all (hos8.keep (c11.tr cX')) (by intro h; simp [h] at hml)
        obtain ⟨z1, z2, z3, z4⟩ := AV.slice.inj e2
        subst z1 z3 z4
        have hj' : j' < os.length := by omega
        have hj'' : (j' : Int) < os.length := by omega
        have l0 := (kk j' hj').2.2 0 (by omega)
        obtain ⟨u, eu⟩ : ∃ u, u = os[j'] := ⟨_, rfl⟩
        rw [← eu] at l0
        simp only [Od.cs, Nat.add_zero, List.getElem?_cons_zero, List.getElem?_cons_succ] at l0
        have gX := cX'.row g0 (by simp)
        cases d with
        | succ d =>
          have hne : ¬ u.id = t.id := by
            have := List.pairwise_iff_getElem.1 (right_up ra) j' m hj' hml (by omega)
            rw [eu]; rw [ex] at this; omega
          have wj : IntKind.i64.wrap ((j' : Int) + 1) = (j' : Int) + 1 := wrap_i64 (by omega) (by omega)
          simp [d5_28, hj', hj'', hi', hi, k0, l0, gX, f0, hne, wj]
          exact ⟨d, by omega, X, j' + 1, by simp [maskS], cX', by omega⟩
        | zero =>
          have hjm' : j' = m := by omega
          subst hjm'
          have eux : u = x := by rw [eu, ex]
          have heq : u.id = t.id := by rw [eux]; exact h0
          simp [d5_28, hj', hj'', hi', hi, k0, l0, gX, f0, heq]
          refine hx_drawn dc5_30 fun Y cY _ _ => ?_
          have gY := cY.row gX (by simp)
          have kY := cY.row k0 (by simp)
          have l1 := (kk j' hj').2.2 1 (by omega)
          have l3 := (kk j' hj').2.2 3 (by omega)
          have l4 := (kk j' hj').2.2 4 (by omega)
          have l5 := (kk j' hj').2.2 5 (by omega)
          rw [← eu] at l1 l3 l4 l5
          simp only [Od.cs, Nat.add_zero, List.getElem?_cons_zero, List.getElem?_cons_succ] at l1 l3 l4 l5
          have hnl : ¬ (j' : Int) = os.length := by omega
          have hnl' : ¬ j' = os.length := by omega
          have n4 : ¬ u.q < t.q := by rw [eux]; omega
          have n5 : t.p = u.p := by rw [eux]; exact h2.symm
          have n1 : t.acc = u.acc := by rw [eux]; exact h3.symm
          have n3 : t.side = u.side := by rw [eux]; exact h4.symm
          simp [d5_30, hj', hj'', hi', hi, hnl, hnl', gY, kY, f1, f3, f4, f5, l1, l3, l4, l5, n1, n3, n4, n5, maskS, wi]
          refine ⟨Y, j', ⟨rfl, rfl⟩, c11.tr (cX'.tr cY), by omega, fun y hy m' hm' hid => ?_⟩
          rcases Nat.lt_or_ge m' j' with hlt | hge
          · exfalso
            have q1 := List.pairwise_iff_getElem.1 (right_up ra) m' j' hm' hj' hlt
            have q2 := (List.pairwise_cons.1 (htd ▸ (right_up rb).sublist (List.drop_sublist i B))).1 y hy
            rw [ex] at q1
            omega
          · exact hge
      · rintro st ⟨H11, j, rfl, c11, hjl, hjm⟩
        have eB2 : ((B.map Od.q).take B.length).sum = sumq B := by rw [List.take_of_length_le (by simp)]; rfl
        rw [eB2]
        have hB := hsbb B.length
        rw [eB2] at hB
        have v1 : IntKind.i64.wrap (S + left) = o.q := by rw [eS2, hsum]; exact wrap_i64 (by have := right_q hro; omega) (by have := right_q hro; omega)
        have v2 : IntKind.i64.wrap (A - sumq B) = S := by rw [eA2, hwas, ← eS2]; exact wrap_i64 (by omega) (by omega)
        have r11 := c11.row rG8 (by simp)
        simp only [Od.cs] at r11
        simp [v1, v2, r11]
theorem matchKeeps_main (H : AH) (ass : List (List AV)) (hl : ass.length = [27].length) (ha : ∀ (i : Nat) t al, [27][i]? = some t → ass[i]? = some al → AR ap 6 H t al) :
    Hx (callA ap 2000 (.func 5 [] []) (List.zipWith (argA ap) [27] ass) 0 H) fun r => r.1 = .bool true := by
  match ass, hl with
  | [a0], _ =>
    obtain ⟨v, L, rfl, h0, hL⟩ := ar_u64s (ha 0 27 a0 rfl rfl) ty27 rfl ty48 rfl rfl
    simp only [List.zipWith_cons_cons, List.zipWith_nil_right, argA_one ty27 rfl]
    exact matchKeeps_ok h0 hL (by omega)
end
end Go.Proofs.Ytjpmddjibeecbaa.T.Qu
end
