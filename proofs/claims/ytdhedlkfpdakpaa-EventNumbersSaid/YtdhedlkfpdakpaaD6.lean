import Derived.Test.YtdhedlkfpdakpaaD5
/-! Orders and events that are drawn. -/
set_option linter.unusedVariables false
set_option linter.unusedSimpArgs false
set_option maxHeartbeats 4000000
set_option maxRecDepth 100000
namespace Go.Proofs.Ytdhedlkfpdakpaa.T
open Go Go.Ab
section
variable {k n p : Nat} {H : AH} {v : AV} {c : Cf}
theorem rt7 {a i s q p : Int} (h1 : 1 ≤ a ∧ a ≤ 24) (h2 : 0 ≤ i ∧ i ≤ 5) (h3 : 1 ≤ s ∧ s ≤ 2) (h4 : 1 ≤ q ∧ q ≤ 1000000000) (h5 : 1 ≤ p ∧ p ≤ 1000000000000) : rt ⟨7, 0, a, i, s, 0, q, p⟩ = true := by
  simp [rt, fld, okF, bnd, gt, own, wth, bare]; omega
theorem order_ok (h : Dk H p n) (hn : n ≤ 1000) (hs : SI H v c.ins) (hv : p ∉ blk v) (hr : rightC c = true) :
    Hx (callA ap (k + 20) (.func 34 [] []) [.ptr (some (p, 0)), .agg (c.cs v)] 0 H) fun r => ∃ e, r.1 = .agg (E8.cs e) ∧ rt e = true ∧ Dk r.2 p (n + 20) ∧ Chg [p] H r.2 := by
  rw [hx_go fn34 rfl, b34]
  have hpl := h.lt
  have hlen := right_len hr
  obtain ⟨va, vc, vs, rfl⟩ := SI.form hs
  simp [Cf.cs]
  obtain ⟨G, eG⟩ : ∃ G, G = H ++ [.cells (c.cs (.slice va c.ins.length vc vs)) .rw, .cells (bare 0).cs .rw] := ⟨_, rfl⟩
  have cG : Chg [] H G := by rw [eG]; exact .app _ _
  have r0 : G[H.length]? = some (.cells (c.cs (.slice va c.ins.length vc vs)) .rw) := by rw [eG]; simp
  have r1 : G[H.length + 1]? = some (.cells (bare 0).cs .rw) := by rw [eG]; simp
  simp only [Cf.cs, E8.cs, bare] at eG r0 r1
  rw [← eG]
  refine Hx.mapp (n_ok (h.keep cG) (by omega) (m := c.ins.length) (by omega) (by omega)) ?_
  rintro ⟨r', G1⟩ ⟨xi, e, hxi, d0, c0⟩
  simp only at e d0 c0
  subst e
  obtain ⟨i, rfl⟩ : ∃ i : Nat, xi = i := ⟨xi.toNat, by omega⟩
  have hi : i < c.ins.length := by omega
  have hi' : (i : Int) < (c.ins.length : Int) := by omega
  have hpr := right_price hr (get_d hi)
  have hGl := cG.1
  replace r0 := c0.get r0 (by simp; omega)
  replace r1 := c0.get r1 (by simp; omega)
  replace hs := (hs.keep cG).chg c0 (fun b hb hp => by simp at hp; subst hp; exact hv hb)
  have cH0 : Chg [p] H G1 := cG.nil.tr' c0
  have hG1 : H.length + 2 ≤ G1.length := by have := lt_of_get r1; omega
  simp
  refine hx_drawn dc34_2 fun H1 c1 hl1 hd1 => ?_
  obtain ⟨b0, o0, cc, r, e0, g0, g1, g2, g3⟩ := SI.get (hs.keep c1) (get_d hi)
  injection e0 with y1 y2 y3 y4
  subst y1 y3 y4
  obtain ⟨P, hP⟩ : ∃ P, c.ins[i].p = P := ⟨_, rfl⟩
  rw [hP] at hpr
  have g4 : r[o0 + i * 4 + 1]? = some (.int .i64 P) := by rw [g3 1 (by omega), ← hP]; rfl
  have hbp : b0 ≠ p := fun e => hv (by simp [e])
  have hb0 : b0 < G1.length := hs.lt b0 (by simp)
  obtain ⟨m, hm⟩ : ∃ m, m = G1.length + 23 := ⟨_, rfl⟩
  have z1 : H1[m]? = some dead0 := by rw [hm]; exact hd1 23 (by decide)
  have s1 := c1.get r0 (by simp)
  have q1 := rowOf_rw s1
  simp [d34_2, q1, hi, hi', g0, g4]
  refine Hx.mapp (n_ok (d0.keep c1) (by omega) (m := 7) (by omega) (by omega)) ?_
  rintro ⟨r', H2⟩ ⟨x2, e, hx2, d2, c2⟩
  simp only at e d2 c2
  subst e
  have z2 := c2.get z1 (by simp; omega)
  have s2 := c2.get s1 (by simp; omega)
  have t2 : rowOf H2 b0 = some r := c2.row g0 (by simp; exact hbp)
  have w2 : IntKind.i64.wrap (1 + x2) = 1 + x2 := wrap_i64 (by omega) (by omega)
  simp [w2]
  refine Hx.mapp (n_ok d2 (by omega) (m := 2) (by omega) (by omega)) ?_
  rintro ⟨r', H3⟩ ⟨x3, e, hx3, d3, c3⟩
  simp only at e d3 c3
  subst e
  have z3 := c3.get z2 (by simp; omega)
  have s3 := c3.get s2 (by simp; omega)
  have t3 : rowOf H3 b0 = some r := c3.row t2 (by simp; exact hbp)
  have w3 : IntKind.i64.wrap (1 + x3) = 1 + x3 := wrap_i64 (by omega) (by omega)
  simp [w3]
  refine Hx.mapp (n_ok d3 (by omega) (m := 30) (by omega) (by omega)) ?_
  rintro ⟨r', H4⟩ ⟨x4, e, hx4, d4, c4⟩
  simp only at e d4 c4
  subst e
  have z4 := c4.get z3 (by simp; omega)
  have s4 := c4.get s3 (by simp; omega)
  have t4 : rowOf H4 b0 = some r := c4.row t3 (by simp; exact hbp)
  have w4 : IntKind.i64.wrap (1 + x4) = 1 + x4 := wrap_i64 (by omega) (by omega)
  simp [w4]
  refine Hx.mapp (n_ok d4 (by omega) (m := 21) (by omega) (by omega)) ?_
  rintro ⟨r', H5⟩ ⟨x5, e, hx5, d5, c5⟩
  simp only at e d5 c5
  subst e
  have z5 := c5.get z4 (by simp; omega)
  have s5 := c5.get s4 (by simp; omega)
  have t5 : rowOf H5 b0 = some r := c5.row t4 (by simp; exact hbp)
  have k1 : ∀ X, rowOf (H5.set m X) b0 = some r := fun X => set_row t5 (by omega) X
  have k2 : ∀ X, rowOf (H5.set m X) H.length = some _ := fun X => set_row (rowOf_rw s5) (by omega) X
  have k3 : ∀ l, rowRw (H5.set m (.cells l .rw)) 0 m = some l := fun l => rowRw_self (lt_of_get z5)
  have k4 : ∀ l, rowOf (H5.set m (.cells l .rw)) m = some l := fun l => rowOf_self (lt_of_get z5)
  obtain ⟨u1, a1, a2, a3, a4⟩ := amm_min 1000000000000 (P + x5 - 10)
  obtain ⟨u2, b1, b2, b3, b4⟩ := amm_max 1 u1
  have w5 : IntKind.i64.wrap (P + x5) = P + x5 := wrap_i64 (by omega) (by omega)
  have w6 : IntKind.i64.wrap (P + x5 - 10) = P + x5 - 10 := wrap_i64 (by omega) (by omega)
  have hu2 : 1 ≤ u2 ∧ u2 ≤ 1000000000000 := by omega
  have zz1 : isDeadB H1[m]? = true := by rw [z1]; rfl
  have zz2 : isDeadB H2[m]? = true := by rw [z2]; rfl
  have zz3 : isDeadB H3[m]? = true := by rw [z3]; rfl
  have zz4 : isDeadB H4[m]? = true := by rw [z4]; rfl
  have zz5 : isDeadB H5[m]? = true := by rw [z5]; rfl
  have p2 := rowOf_rw s2
  have p3 := rowOf_rw s3
  have p4 := rowOf_rw s4
  obtain ⟨E, hE⟩ : ∃ E : E8, E = ⟨7, 0, 1 + x2, i, 1 + x3, 0, 1 + x4, u2⟩ := ⟨_, rfl⟩
  simp [← hm, zz1, zz2, zz3, zz4, zz5, k1, k2, k3, k4, amm, w5, w6, a1, b1, hi, hi', g4, p2, p3, p4, t2, t3, t4]
  obtain ⟨H6, e6⟩ : ∃ H6, H6 = H5.set m (.cells E.cs .rw) := ⟨_, rfl⟩
  have r6 : H6[m]? = some (.cells E.cs .rw) := by rw [e6]; exact List.getElem?_set_self (lt_of_get z5)
  have d6 : Dk H6 p (n + 5) := by rw [e6]; exact d5.chg (.set _ _ _) (by simp; omega)
  have c05 : Chg [p] G1 H5 := ((((c1.nil.tr' c2).tr' c3).tr' c4).tr' c5)
  have c6 : Chg [p] H H6 := by rw [e6]; exact (cH0.tr' c05).set_new (by omega) _
  have r16 : H6[H.length + 1]? = some (.cells (bare 0).cs .rw) := by rw [e6]; exact (Chg.set _ _ _).get (c05.get r1 (by simp; omega)) (by simp; omega)
  have hE7 : rt E = true := by rw [hE]; exact rt7 (by omega) (by omega) (by omega) (by omega) hu2
  rw [hE] at e6 r6
  simp only [E8.cs] at e6 r6
  rw [← e6]
  refine Hx.mapp (yes_ok d6 (by omega) (m := 30) (by omega) (by omega)) ?_
  rintro ⟨r', H7⟩ ⟨b, e, d7, c7⟩
  simp only at e d7 c7
  subst e
  have r7 := c7.get r6 (by simp; omega)
  have r17 := c7.get r16 (by simp; omega)
  have c07 := c6.tr' c7
  cases b with
  | false =>
    have q7 := rowOf_rw r7
    have q17 := rowRw_rw r17
    simp only [E8.cs] at q17
    have kk : ∀ l, rowOf (H7.set (H.length + 1) (.cells l .rw)) (H.length + 1) = some l := fun l => rowOf_self (lt_of_get r17)
    simp [q7, q17, kk, bare]
    refine ⟨E, by rw [hE]; rfl, hE7, (d7.more (by omega)).chg (.set _ _ _) (by simp; omega), c07.set_new (by omega) _⟩
  | true =>
    simp
    refine Hx.mapp (some_ok d7 (by omega)) ?_
    rintro ⟨r', H8⟩ ⟨y, e, hy, d8, c8⟩
    simp only at e d8 c8
    subst e
    have ht : y.tmod 1000000000 = y % 1000000000 := Int.tmod_eq_emod_of_nonneg hy.1
    have w7 : IntKind.i64.wrap (1 + y % 1000000000) = 1 + y % 1000000000 := wrap_i64 (by omega) (by omega)
    obtain ⟨Q, hQ, hQ2⟩ : ∃ Q, Q = 1 + y % 1000000000 ∧ 1 ≤ Q ∧ Q ≤ 1000000000 := ⟨_, rfl, by omega⟩
    rw [← hQ] at w7
    simp [ht, ← hQ, w7]
    refine Hx.mapp (some_ok d8 (by omega)) ?_
    rintro ⟨r', H9⟩ ⟨z, e, hz, d9, c9⟩
    simp only at e d9 c9
    subst e
    have ht2 : z.tmod 1000000000000 = z % 1000000000000 := Int.tmod_eq_emod_of_nonneg hz.1
    have w8 : IntKind.i64.wrap (1 + z % 1000000000000) = 1 + z % 1000000000000 := wrap_i64 (by omega) (by omega)
    obtain ⟨R, hR, hR2⟩ : ∃ R, R = 1 + z % 1000000000000 ∧ 1 ≤ R ∧ R ≤ 1000000000000 := ⟨_, rfl, by omega⟩
    rw [← hR] at w8
    have r9 := c9.get (c8.get r7 (by simp; omega)) (by simp; omega)
    have r19 := c9.get (c8.get r17 (by simp; omega)) (by simp; omega)
    have q9 := rowRw_rw r9
    have k5 : ∀ l, rowRw (H9.set m (.cells l .rw)) 0 m = some l := fun l => rowRw_self (lt_of_get r9)
    have k6 : ∀ l, rowOf (H9.set m (.cells l .rw)) m = some l := fun l => rowOf_self (lt_of_get r9)
    have k7 : ∀ X, rowRw (H9.set m X) 0 (H.length + 1) = some (bare 0).cs := fun X => rowRw_rw ((Chg.set _ _ _).get r19 (by simp; omega))
    have k8 : ∀ X l, rowOf ((H9.set m X).set (H.length + 1) (.cells l .rw)) (H.length + 1) = some l := fun X l => rowOf_self (by simp; exact lt_of_get r19)
    simp only [E8.cs, bare] at k7
    simp [q9, ht2, ← hR, w8, k5, k6, k7, k8]
    refine ⟨⟨7, 0, 1 + x2, i, 1 + x3, 0, Q, R⟩, rfl, rt7 (by omega) (by omega) (by omega) hQ2 hR2, ?_, ?_⟩
    · exact ((d9.more (by omega : n + 5 + 1 + 1 + 1 ≤ n + 20)).chg (.set _ _ _) (by simp; omega)).chg (.set _ _ _) (by simp; omega)
    · exact (((c07.tr' c8).tr' c9).set_new (by omega) _).set_new (by omega) _
end
end Go.Proofs.Ytdhedlkfpdakpaa.T
