import Derived.Test.YtdhedlkfpdakpaaD4
import Derived.Test.YtdhedlkfpdakpaaE2
/-! Events that are drawn: they are right. -/
set_option linter.unusedVariables false
set_option linter.unusedSimpArgs false
set_option maxHeartbeats 4000000
set_option maxRecDepth 100000
namespace Go.Proofs.Ytdhedlkfpdakpaa.T
open Go Go.Ab
theorem amm_min (a b : Int) : ∃ z, amm1 false .i64 a [.int .i64 b] = some (.int .i64 z) ∧ (z = a ∨ z = b) ∧ z ≤ a ∧ z ≤ b := by
  by_cases h : b < a
  · exact ⟨b, by simp [amm1, h], .inr rfl, by omega, by omega⟩
  · exact ⟨a, by simp [amm1, h], .inl rfl, by omega, by omega⟩
theorem amm_max (a b : Int) : ∃ z, amm1 true .i64 a [.int .i64 b] = some (.int .i64 z) ∧ (z = a ∨ z = b) ∧ a ≤ z ∧ b ≤ z := by
  by_cases h : a < b
  · exact ⟨b, by simp [amm1, h], .inr rfl, by omega, by omega⟩
  · exact ⟨a, by simp [amm1, h], .inl rfl, by omega, by omega⟩
theorem right_price {c : Cf} (h : rightC c = true) {i : Nat} {x : I4} (hx : c.ins[i]? = some x) : 1 ≤ x.p ∧ x.p ≤ 1000000000000 := by
  simp only [rightC, Bool.and_eq_true] at h
  have := List.all_eq_true.1 h.2.1 x (List.mem_of_getElem? hx)
  simp only [rightI, inB, Bool.and_eq_true, decide_eq_true_eq] at this
  omega
section
variable {k n p : Nat} {H : AH} {v : AV} {c : Cf}
theorem rt9 {i p : Int} (h1 : 0 ≤ i ∧ i ≤ 5) (h2 : 1 ≤ p ∧ p ≤ 1000000000000) : rt ⟨9, 0, 0, i, 0, 0, 0, p⟩ = true := by
  simp [rt, fld, okF, bnd, gt, own, wth, bare]; omega
theorem mark_ok (h : Dk H p n) (hn : n ≤ 1000) (hs : SI H v c.ins) (hv : p ∉ blk v) (hr : rightC c = true) {i : Nat} (hi : i < c.ins.length) :
    Hx (callA ap (k + 20) (.func 33 [] []) [.ptr (some (p, 0)), .agg (c.cs v), .int .i64 i] 0 H) fun r => ∃ e, r.1 = .agg (E8.cs e) ∧ rt e = true ∧ Dk r.2 p (n + 10) ∧ Chg [p] H r.2 := by
  rw [hx_go fn33 rfl, b33]
  have hpl := h.lt
  have hlen := right_len hr
  have hpr := right_price hr (get_d hi)
  have hi' : (i : Int) < (c.ins.length : Int) := by omega
  simp [f33, b33, Cf.cs]
  obtain ⟨G, eG⟩ : ∃ G, G = H ++ [.cells (c.cs v) .rw, .cells (bare 0).cs .rw] := ⟨_, rfl⟩
  have cG : Chg [] H G := by rw [eG]; exact .app _ _
  have r0 : G[H.length]? = some (.cells (c.cs v) .rw) := by rw [eG]; simp
  have r1 : G[H.length + 1]? = some (.cells (bare 0).cs .rw) := by rw [eG]; simp
  simp only [Cf.cs, E8.cs, bare] at eG r0 r1
  rw [← eG]
  refine hx_drawn dc33_1 fun H1 c1 hl1 hd1 => ?_
  have cH1 : Chg [] H H1 := cG.tr c1
  obtain ⟨b0, o0, c0, r, e0, g0, g1, g2, g3⟩ := SI.get (hs.keep cH1) (get_d hi)
  obtain ⟨P, hP⟩ : ∃ P, c.ins[i].p = P := ⟨_, rfl⟩
  rw [hP] at hpr
  have g4 : r[o0 + i * 4 + 1]? = some (.int .i64 P) := by rw [g3 1 (by omega), ← hP]; rfl
  subst e0
  have q0 := rowOf_rw (c1.get r0 (by simp))
  simp [d33_1, q0, hi, hi', g0, g4]
  refine Hx.mapp (n_ok (h.keep cH1) (by omega) (m := 61) (by omega) (by omega)) ?_
  rintro ⟨r', H2⟩ ⟨x, e, hx, d2, c2⟩
  simp only at e d2 c2
  subst e
  obtain ⟨m, hm⟩ : ∃ m, m = G.length + 14 := ⟨_, rfl⟩
  have d14 : H1[m]? = some dead0 := by rw [hm]; exact hd1 14 (by decide)
  have hpm : p < m := by have := cG.1; omega
  have d14' := c2.get d14 (by simp; omega)
  have z14 : isDeadB H1[m]? = true := by rw [d14]; rfl
  have z14' : isDeadB H2[m]? = true := by rw [d14']; rfl
  have hbp : b0 ≠ p := fun e => hv (by simp [e])
  have hb0 : b0 < H.length := hs.lt b0 (by simp)
  have hGl := cG.1
  have q2 := c2.get (c1.get r0 (by simp)) (by simp; omega)
  have g2' : rowOf H2 b0 = some r := c2.row g0 (by simp; exact hbp)
  have k1 : ∀ X, rowOf (H2.set m X) b0 = some r := fun X => set_row g2' (by omega) X
  have k2 : ∀ X, rowOf (H2.set m X) H.length = some _ := fun X => set_row (rowOf_rw q2) (by omega) X
  have k3 : ∀ l, rowRw (H2.set m (.cells l .rw)) 0 m = some l := fun l => rowRw_self (lt_of_get d14')
  have k4 : ∀ l, rowOf (H2.set m (.cells l .rw)) m = some l := fun l => rowOf_self (lt_of_get d14')
  obtain ⟨z1, a1, a2, a3, a4⟩ := amm_min 1000000000000 (P + x - 30)
  obtain ⟨z2, b1, b2, b3, b4⟩ := amm_max 1 z1
  have w1 : IntKind.i64.wrap (P + x) = P + x := wrap_i64 (by omega) (by omega)
  have w2 : IntKind.i64.wrap (P + x - 30) = P + x - 30 := wrap_i64 (by omega) (by omega)
  have hz2 : 1 ≤ z2 ∧ z2 ≤ 1000000000000 := by omega
  simp [← hm, z14, z14', k1, k2, k3, k4, amm, w1, w2, a1, b1, hi, hi', g4]
  obtain ⟨H3, e3⟩ : ∃ H3, H3 = H2.set m (.cells (E8.cs ⟨9, 0, 0, i, 0, 0, 0, z2⟩) .rw) := ⟨_, rfl⟩
  have r3 : H3[m]? = some (.cells (E8.cs ⟨9, 0, 0, i, 0, 0, 0, z2⟩) .rw) := by rw [e3]; exact List.getElem?_set_self (lt_of_get d14')
  have d3 : Dk H3 p (n + 1) := by rw [e3]; exact d2.chg (.set _ _ _) (by simp; omega)
  have c3 : Chg [p] H H3 := by rw [e3]; exact (cH1.nil.tr' c2).set_new (by omega) _
  have r13 : H3[H.length + 1]? = some (.cells (bare 0).cs .rw) := by rw [e3]; exact (Chg.set _ _ _).get (c2.get (c1.get r1 (by simp)) (by simp; omega)) (by simp; omega)
  simp only [E8.cs] at e3
  rw [← e3]
  refine Hx.mapp (yes_ok d3 (by omega) (m := 20) (by omega) (by omega)) ?_
  rintro ⟨r', H4⟩ ⟨b, e, d4, c4⟩
  simp only at e d4 c4
  subst e
  have r4 := c4.get r3 (by simp; omega)
  have r14 := c4.get r13 (by simp; omega)
  have c04 := c3.tr' c4
  cases b with
  | false =>
    have q4 := rowOf_rw r4
    have q14 := rowRw_rw r14
    simp only [E8.cs] at q4 q14
    have kk : ∀ l, rowOf (H4.set (H.length + 1) (.cells l .rw)) (H.length + 1) = some l := fun l => rowOf_self (lt_of_get r14)
    simp [q4, q14, kk, E8.cs, bare]
    refine ⟨⟨9, 0, 0, i, 0, 0, 0, z2⟩, ⟨rfl, rfl, rfl, rfl, rfl, rfl, rfl, rfl⟩, rt9 (by omega) hz2, (d4.more (by omega)).chg (.set _ _ _) (by simp; omega), c04.set_new (by omega) _⟩
  | true =>
    simp
    refine Hx.mapp (some_ok d4 (by omega)) ?_
    rintro ⟨r', H5⟩ ⟨y, e, hy, d5, c5⟩
    simp only at e d5 c5
    subst e
    have r5 := c5.get r4 (by simp; omega)
    have r15 := c5.get r14 (by simp; omega)
    have q5 := rowRw_rw r5
    simp only [E8.cs] at q5
    have ht : y.tmod 1000000000000 = y % 1000000000000 := Int.tmod_eq_emod_of_nonneg hy.1
    have w3 : IntKind.i64.wrap (1 + y % 1000000000000) = 1 + y % 1000000000000 := wrap_i64 (by omega) (by omega)
    obtain ⟨z3, hz3, hz4⟩ : ∃ z3, z3 = 1 + y % 1000000000000 ∧ 1 ≤ z3 ∧ z3 ≤ 1000000000000 := ⟨_, rfl, by omega⟩
    rw [← hz3] at w3
    have k6 : ∀ l, rowOf (H5.set m (.cells l .rw)) m = some l := fun l => rowOf_self (lt_of_get r5)
    have k7 : ∀ X, rowRw (H5.set m X) 0 (H.length + 1) = some (bare 0).cs := fun X => rowRw_rw ((Chg.set _ _ _).get r15 (by simp; omega))
    have k8 : ∀ X l, rowOf ((H5.set m X).set (H.length + 1) (.cells l .rw)) (H.length + 1) = some l := fun X l => rowOf_self (by simp; exact lt_of_get r15)
    simp only [E8.cs, bare] at k7
    simp [q5, ht, ← hz3, w3, k6, k7, k8]
    refine ⟨⟨9, 0, 0, i, 0, 0, 0, z3⟩, rfl, rt9 (by omega) hz4, ?_, ?_⟩
    · exact ((d5.more (by omega : n + 1 + 1 + 1 ≤ n + 10)).chg (.set _ _ _) (by simp; omega)).chg (.set _ _ _) (by simp; omega)
    · exact ((c04.tr' c5).set_new (by omega) _).set_new (by omega) _
end
end Go.Proofs.Ytdhedlkfpdakpaa.T
