import Derived.Test.YtdhedlkfpdakpaaD6
/-! Events that are drawn. -/
set_option linter.unusedVariables false
set_option linter.unusedSimpArgs false
set_option maxHeartbeats 4000000
set_option maxRecDepth 100000
namespace Go.Proofs.Ytdhedlkfpdakpaa.T
open Go Go.Ab
section
variable {k n p : Nat} {H : AH} {v : AV} {c : Cf}
theorem rtM {K m : Int} (hK : K = 1 ∨ K = 11 ∨ K = 12 ∨ K = 13) (h1 : 1 ≤ m ∧ m ≤ 12) : rt ⟨K, m, 0, 0, 0, 0, 0, 0⟩ = true := by
  rcases hK with rfl | rfl | rfl | rfl <;> (simp [rt, fld, okF, bnd, gt, own, wth, bare]; omega)
theorem rt2 {m a s : Int} (h1 : 1 ≤ m ∧ m ≤ 12) (h2 : 1 ≤ a ∧ a ≤ 24) (h3 : 1 ≤ s ∧ s ≤ 2) : rt ⟨2, m, a, 0, s, 0, 0, 0⟩ = true := by
  simp [rt, fld, okF, bnd, gt, own, wth, bare]; omega
theorem rtAQ {K a q : Int} (hK : K = 3 ∨ K = 4) (h1 : 1 ≤ a ∧ a ≤ 24) (h2 : 1 ≤ q ∧ q ≤ 9223372036854775807) : rt ⟨K, 0, a, 0, 0, 0, q, 0⟩ = true := by
  rcases hK with rfl | rfl <;> (simp [rt, fld, okF, bnd, gt, own, wth, bare]; omega)
theorem rtMQ {K m q : Int} (hK : K = 5 ∨ K = 22) (h1 : 1 ≤ m ∧ m ≤ 12) (h2 : 1 ≤ q ∧ q ≤ 9223372036854775807) : rt ⟨K, m, 0, 0, 0, 0, q, 0⟩ = true := by
  rcases hK with rfl | rfl <;> (simp [rt, fld, okF, bnd, gt, own, wth, bare]; omega)
theorem rt6 {a q : Int} (h1 : 1 ≤ a ∧ a ≤ 24) (h2 : 0 ≤ q ∧ q ≤ 1000000000000) : rt ⟨6, 0, a, 0, 0, 0, q, 0⟩ = true := by
  simp [rt, fld, okF, bnd, gt, own, wth, bare]; omega
theorem rt8 {a d : Int} (h1 : 1 ≤ a ∧ a ≤ 24) (h2 : 1 ≤ d ∧ d ≤ 1099511627776) : rt ⟨8, 0, a, 0, 0, d, 0, 0⟩ = true := by
  simp [rt, fld, okF, bnd, gt, own, wth, bare]; omega
theorem rt10 {q : Int} (h2 : 1 ≤ q ∧ q ≤ 1000000) : rt ⟨10, 0, 0, 0, 0, 0, q, 0⟩ = true := by
  simp [rt, fld, okF, bnd, gt, own, wth, bare]; omega
theorem rt14 {m a : Int} (h1 : 1 ≤ m ∧ m ≤ 12) (h2 : 1 ≤ a ∧ a ≤ 24) : rt ⟨14, m, a, 0, 0, 0, 0, 0⟩ = true := by
  simp [rt, fld, okF, bnd, gt, own, wth, bare]; omega
theorem rt0 {K : Int} (hK : K = 15 ∨ K = 16 ∨ K = 18 ∨ K = 20 ∨ K = 21) : rt ⟨K, 0, 0, 0, 0, 0, 0, 0⟩ = true := by
  rcases hK with rfl | rfl | rfl | rfl | rfl <;> rfl
theorem rt17 {a d q p : Int} (h1 : 1 ≤ a ∧ a ≤ 24) (h2 : 1 ≤ d ∧ d ≤ 1099511627776) (h3 : 1 ≤ q ∧ q ≤ 1000000000) (h4 : 1 ≤ p ∧ p ≤ 1000000000000) : rt ⟨17, 0, a, 0, 0, d, q, p⟩ = true := by
  simp [rt, fld, okF, bnd, gt, own, wth, bare]; omega
theorem rt19 {m d p : Int} (h1 : 1 ≤ m ∧ m ≤ 12) (h2 : 1 ≤ d ∧ d ≤ 1099511627776) (h3 : -1152921504606846976 ≤ p ∧ p ≤ 1152921504606846976) : rt ⟨19, m, 0, 0, 0, d, 0, p⟩ = true := by
  simp [rt, fld, okF, bnd, gt, own, wth, bare]; omega
theorem event_ok (h : Dk H p n) (hn : n ≤ 900) (hs : SI H v c.ins) (hv : p ∉ blk v) (hr : rightC c = true) :
    Hx (callA ap (k + 40) (.func 17 [] []) [.ptr (some (p, 0)), .agg (c.cs v)] 0 H) fun r => ∃ e, r.1 = .agg (E8.cs e) ∧ rt e = true ∧ Dk r.2 p (n + 40) ∧ Chg [p] H r.2 := by
  rw [hx_go fn17 rfl, b17]
  have hpl := h.lt
  have hlen := right_len hr
  obtain ⟨va, vc, vs, rfl⟩ := SI.form hs
  simp [Cf.cs]
  obtain ⟨G, eG⟩ : ∃ G, G = H ++ [.cells (c.cs (.slice va c.ins.length vc vs)) .rw, .cells (bare 0).cs .rw] := ⟨_, rfl⟩
  have cG : Chg [] H G := by rw [eG]; exact .app _ _
  have r0 : G[H.length]? = some (.cells (c.cs (.slice va c.ins.length vc vs)) .rw) := by rw [eG]; simp
  have r1 : G[H.length + 1]? = some (.cells (bare 0).cs .rw) := by rw [eG]; simp
  simp only [Cf.cs, E8.cs, bare] at eG r0
  rw [← eG]
  have hGl := cG.1
  have hs0 := hs.keep cG
  refine hx_drawn dc17_1 fun H1 c1 hl1 hd1 => ?_
  have s1 := c1.get r0 (by simp)
  have q1 := rowOf_rw s1
  simp [d17_1, q1]
  refine Hx.mapp (n_ok (h.keep (cG.tr c1)) (by omega) (m := 4) (by omega) (by omega)) ?_
  rintro ⟨r', H2⟩ ⟨x1, e, hx1, d2, c2⟩
  simp only at e d2 c2
  subst e
  have s2 := c2.get s1 (by simp; omega)
  have q2 := rowOf_rw s2
  have w1 : IntKind.i64.wrap (1 + x1) = 1 + x1 := wrap_i64 (by omega) (by omega)
  simp [w1]
  refine Hx.mapp (n_ok d2 (by omega) (m := 7) (by omega) (by omega)) ?_
  rintro ⟨r', H3⟩ ⟨x2, e, hx2, d3, c3⟩
  simp only at e d3 c3
  subst e
  have s3 := c3.get s2 (by simp; omega)
  have q3 := rowOf_rw s3
  have w2 : IntKind.i64.wrap (1 + x2) = 1 + x2 := wrap_i64 (by omega) (by omega)
  simp [w2]
  refine Hx.mapp (n_ok d3 (by omega) (m := c.ins.length) (by omega) (by omega)) ?_
  rintro ⟨r', H4⟩ ⟨xi, e, hxi, d4, c4⟩
  simp only at e d4 c4
  subst e
  obtain ⟨i, rfl⟩ : ∃ i : Nat, xi = i := ⟨xi.toNat, by omega⟩
  have hi : i < c.ins.length := by omega
  have hi' : (i : Int) < (c.ins.length : Int) := by omega
  have hpr := right_price hr (get_d hi)
  simp [q2, q3]
  refine Hx.mapp (n_ok d4 (by omega) (m := 36) (by omega) (by omega)) ?_
  rintro ⟨r', H5⟩ ⟨xk, e, hxk, d5, c5⟩
  simp only at e d5 c5
  subst e
  have c15 : Chg [p] G H5 := ((((c1.nil.tr' c2).tr' c3).tr' c4).tr' c5)
  have c05 : Chg [p] H H5 := cG.nil.tr' c15
  have r05 := c15.get r0 (by simp; omega)
  have r15 := c15.get r1 (by simp; omega)
  have hs5 : SI H5 (.slice va c.ins.length vc vs) c.ins := hs0.chg c15 (fun b hb hp => by simp at hp; subst hp; exact hv hb)
  clear q1 q2 q3 s1 s2 s3 c1 c2 c3 c4 c5 d2 d3 d4 hd1 hl1 c15 hs0 r0 r1
  obtain ⟨M, hM, hM2⟩ : ∃ M, M = 1 + x1 ∧ 1 ≤ M ∧ M ≤ 12 := ⟨_, rfl, by omega⟩
  obtain ⟨A, hA, hA2⟩ : ∃ A, A = 1 + x2 ∧ 1 ≤ A ∧ A ≤ 24 := ⟨_, rfl, by omega⟩
  obtain ⟨K, hK, hK2⟩ : ∃ K, K = 1 + xk ∧ 1 ≤ K ∧ K ≤ 36 := ⟨_, rfl, by omega⟩
  have wK : IntKind.i64.wrap (1 + xk) = K := by rw [hK]; exact wrap_i64 (by omega) (by omega)
  rw [← hM, ← hA]
  have q5 := rowRw_rw r15
  have q05 := rowOf_rw r05
  have k5 : ∀ l, rowOf (H5.set (H.length + 1) (.cells l .rw)) (H.length + 1) = some l := fun l => rowOf_self (lt_of_get r15)
  simp only [E8.cs, bare] at q5
  have dF : ∀ X, Dk (H5.set (H.length + 1) X) p (n + 40) := fun X => (d5.more (by omega)).chg (.set _ _ _) (by simp; omega)
  have cF : ∀ X, Chg [p] H (H5.set (H.length + 1) X) := fun X => c05.set_new (by omega) _
  have more1 : ∀ {H6 : AH}, Dk H6 p (n + 1 + 1 + 1 + 1 + 1) → Chg [p] H5 H6 → (∃ a, H6[H.length + 1]? = some a ∧ a = .cells (bare 0).cs .rw) ∧ (∀ X, Dk (H6.set (H.length + 1) X) p (n + 40)) ∧ ∀ X, Chg [p] H (H6.set (H.length + 1) X) := fun d c => ⟨⟨_, c.get r15 (by simp; omega), rfl⟩, fun X => (d.more (by omega)).chg (.set _ _ _) (by simp; omega), fun X => (c05.tr' c).set_new (by omega) _⟩
  by_cases e1 : K = 1
  · subst e1
    simp [wK, q5, k5]
    exact ⟨⟨1, M, 0, 0, 0, 0, 0, 0⟩, rfl, rtM (by omega) hM2, dF _, cF _⟩
  by_cases e11 : K = 11
  · subst e11
    simp [wK, q5, k5]
    exact ⟨⟨11, M, 0, 0, 0, 0, 0, 0⟩, rfl, rtM (by omega) hM2, dF _, cF _⟩
  by_cases e12 : K = 12
  · subst e12
    simp [wK, q5, k5]
    exact ⟨⟨12, M, 0, 0, 0, 0, 0, 0⟩, rfl, rtM (by omega) hM2, dF _, cF _⟩
  by_cases e13 : K = 13
  · subst e13
    simp [wK, q5, k5]
    exact ⟨⟨13, M, 0, 0, 0, 0, 0, 0⟩, rfl, rtM (by omega) hM2, dF _, cF _⟩
  by_cases e2 : K = 2
  · subst e2
    simp [wK]
    refine Hx.mapp (n_ok d5 (by omega) (m := 2) (by omega) (by omega)) ?_
    rintro ⟨r', H6⟩ ⟨y, e, hy, dH6, cH6⟩
    simp only at e dH6 cH6
    subst e
    have r6 := cH6.get r15 (by simp; omega)
    have q6 := rowRw_rw r6
    have k6 : ∀ l, rowOf (H6.set (H.length + 1) (.cells l .rw)) (H.length + 1) = some l := fun l => rowOf_self (lt_of_get r6)
    simp only [E8.cs, bare] at q6
    have wy : IntKind.i64.wrap (1 + y) = 1 + y := wrap_i64 (by omega) (by omega)
    simp [q6, k6, wy]
    exact ⟨⟨2, M, A, 0, 1 + y, 0, 0, 0⟩, rfl, rt2 hM2 hA2 (by omega), (dH6.more (by omega)).chg (.set _ _ _) (by simp; omega), (c05.tr' cH6).set_new (by omega) _⟩
  by_cases e3 : K = 3
  · subst e3
    simp [wK]
    refine Hx.mapp (some_ok d5 (by omega)) ?_
    rintro ⟨r', H6⟩ ⟨y, e, hy, dH6, cH6⟩
    simp only at e dH6 cH6
    subst e
    have r6 := cH6.get r15 (by simp; omega)
    have q6 := rowRw_rw r6
    have k6 : ∀ l, rowOf (H6.set (H.length + 1) (.cells l .rw)) (H.length + 1) = some l := fun l => rowOf_self (lt_of_get r6)
    simp only [E8.cs, bare] at q6
    obtain ⟨u, a1, a2, a3, a4⟩ := amm_max y 1
    simp [q6, k6, amm, a1]
    exact ⟨⟨3, 0, A, 0, 0, 0, u, 0⟩, rfl, rtAQ (by omega) hA2 (by omega), (dH6.more (by omega)).chg (.set _ _ _) (by simp; omega), (c05.tr' cH6).set_new (by omega) _⟩
  by_cases e4 : K = 4
  · subst e4
    simp [wK]
    refine Hx.mapp (some_ok d5 (by omega)) ?_
    rintro ⟨r', H6⟩ ⟨y, e, hy, dH6, cH6⟩
    simp only at e dH6 cH6
    subst e
    have r6 := cH6.get r15 (by simp; omega)
    have q6 := rowRw_rw r6
    have k6 : ∀ l, rowOf (H6.set (H.length + 1) (.cells l .rw)) (H.length + 1) = some l := fun l => rowOf_self (lt_of_get r6)
    simp only [E8.cs, bare] at q6
    obtain ⟨u, a1, a2, a3, a4⟩ := amm_max y 1
    simp [q6, k6, amm, a1]
    exact ⟨⟨4, 0, A, 0, 0, 0, u, 0⟩, rfl, rtAQ (by omega) hA2 (by omega), (dH6.more (by omega)).chg (.set _ _ _) (by simp; omega), (c05.tr' cH6).set_new (by omega) _⟩
  by_cases e5 : K = 5
  · subst e5
    simp [wK]
    refine Hx.mapp (some_ok d5 (by omega)) ?_
    rintro ⟨r', H6⟩ ⟨y, e, hy, dH6, cH6⟩
    simp only at e dH6 cH6
    subst e
    have r6 := cH6.get r15 (by simp; omega)
    have q6 := rowRw_rw r6
    have k6 : ∀ l, rowOf (H6.set (H.length + 1) (.cells l .rw)) (H.length + 1) = some l := fun l => rowOf_self (lt_of_get r6)
    simp only [E8.cs, bare] at q6
    obtain ⟨u, a1, a2, a3, a4⟩ := amm_max y 1
    simp [q6, k6, amm, a1]
    exact ⟨⟨5, M, 0, 0, 0, 0, u, 0⟩, rfl, rtMQ (by omega) hM2 (by omega), (dH6.more (by omega)).chg (.set _ _ _) (by simp; omega), (c05.tr' cH6).set_new (by omega) _⟩
  by_cases e22 : K = 22
  · subst e22
    simp [wK]
    refine Hx.mapp (some_ok d5 (by omega)) ?_
    rintro ⟨r', H6⟩ ⟨y, e, hy, dH6, cH6⟩
    simp only at e dH6 cH6
    subst e
    have r6 := cH6.get r15 (by simp; omega)
    have q6 := rowRw_rw r6
    have k6 : ∀ l, rowOf (H6.set (H.length + 1) (.cells l .rw)) (H.length + 1) = some l := fun l => rowOf_self (lt_of_get r6)
    simp only [E8.cs, bare] at q6
    obtain ⟨u, a1, a2, a3, a4⟩ := amm_max y 1
    simp [q6, k6, amm, a1]
    exact ⟨⟨22, M, 0, 0, 0, 0, u, 0⟩, rfl, rtMQ (by omega) hM2 (by omega), (dH6.more (by omega)).chg (.set _ _ _) (by simp; omega), (c05.tr' cH6).set_new (by omega) _⟩
  by_cases e6 : K = 6
  · subst e6
    simp [wK]
    refine Hx.mapp (some_ok d5 (by omega)) ?_
    rintro ⟨r', H6⟩ ⟨y, e, hy, dH6, cH6⟩
    simp only at e dH6 cH6
    subst e
    have r6 := cH6.get r15 (by simp; omega)
    have q6 := rowRw_rw r6
    have k6 : ∀ l, rowOf (H6.set (H.length + 1) (.cells l .rw)) (H.length + 1) = some l := fun l => rowOf_self (lt_of_get r6)
    simp only [E8.cs, bare] at q6
    have ht : y.tmod 1000000000001 = y % 1000000000001 := Int.tmod_eq_emod_of_nonneg hy.1
    simp [q6, k6, ht]
    exact ⟨⟨6, 0, A, 0, 0, 0, y % 1000000000001, 0⟩, rfl, rt6 hA2 (by omega), (dH6.more (by omega)).chg (.set _ _ _) (by simp; omega), (c05.tr' cH6).set_new (by omega) _⟩
  by_cases e8 : K = 8
  · subst e8
    simp [wK]
    refine Hx.mapp (n_ok d5 (by omega) (m := 40) (by omega) (by omega)) ?_
    rintro ⟨r', H6⟩ ⟨y, e, hy, dH6, cH6⟩
    simp only at e dH6 cH6
    subst e
    have r6 := cH6.get r15 (by simp; omega)
    have q6 := rowRw_rw r6
    have k6 : ∀ l, rowOf (H6.set (H.length + 1) (.cells l .rw)) (H.length + 1) = some l := fun l => rowOf_self (lt_of_get r6)
    simp only [E8.cs, bare] at q6
    have wy : IntKind.i64.wrap (1 + y) = 1 + y := wrap_i64 (by omega) (by omega)
    simp [q6, k6, wy]
    exact ⟨⟨8, 0, A, 0, 0, 1 + y, 0, 0⟩, rfl, rt8 hA2 (by omega), (dH6.more (by omega)).chg (.set _ _ _) (by simp; omega), (c05.tr' cH6).set_new (by omega) _⟩
  by_cases e9 : K = 9
  · subst e9
    simp [wK, q05]
    refine Hx.mapp (mark_ok (c := c) d5 (by omega) hs5 hv hr hi) ?_
    rintro ⟨r', H6⟩ ⟨E, e, hE, d6, c6⟩
    simp only at e d6 c6
    subst e
    have r6 := c6.get r15 (by simp; omega)
    have q6 := rowRw_rw r6
    have k6 : ∀ l, rowOf (H6.set (H.length + 1) (.cells l .rw)) (H.length + 1) = some l := fun l => rowOf_self (lt_of_get r6)
    simp only [E8.cs, bare] at q6
    simp [q6, k6, E8.cs]
    exact ⟨E, ⟨rfl, rfl, rfl, rfl, rfl, rfl, rfl, rfl⟩, hE, (d6.more (by omega)).chg (.set _ _ _) (by simp; omega), (c05.tr' c6).set_new (by omega) _⟩
  by_cases e10 : K = 10
  · subst e10
    simp [wK]
    refine Hx.mapp (n_ok d5 (by omega) (m := 3) (by omega) (by omega)) ?_
    rintro ⟨r', H6⟩ ⟨y, e, hy, dH6, cH6⟩
    simp only at e dH6 cH6
    subst e
    have r6 := cH6.get r15 (by simp; omega)
    have q6 := rowRw_rw r6
    have k6 : ∀ l, rowOf (H6.set (H.length + 1) (.cells l .rw)) (H.length + 1) = some l := fun l => rowOf_self (lt_of_get r6)
    simp only [E8.cs, bare] at q6
    have wy : IntKind.i64.wrap (1 + y) = 1 + y := wrap_i64 (by omega) (by omega)
    simp [q6, k6, wy]
    exact ⟨⟨10, 0, 0, 0, 0, 0, 1 + y, 0⟩, rfl, rt10 (by omega), (dH6.more (by omega)).chg (.set _ _ _) (by simp; omega), (c05.tr' cH6).set_new (by omega) _⟩
  by_cases e14 : K = 14
  · subst e14
    simp [wK, q5, k5]
    exact ⟨⟨14, M, A, 0, 0, 0, 0, 0⟩, rfl, rt14 hM2 hA2, dF _, cF _⟩
  by_cases e15 : K = 15
  · subst e15
    simp [wK, q5, k5]
    exact ⟨⟨15, 0, 0, 0, 0, 0, 0, 0⟩, rfl, rt0 (by omega), dF _, cF _⟩
  by_cases e16 : K = 16
  · subst e16
    simp [wK, q5, k5]
    exact ⟨⟨16, 0, 0, 0, 0, 0, 0, 0⟩, rfl, rt0 (by omega), dF _, cF _⟩
  by_cases e18 : K = 18
  · subst e18
    simp [wK, q5, k5]
    exact ⟨⟨18, 0, 0, 0, 0, 0, 0, 0⟩, rfl, rt0 (by omega), dF _, cF _⟩
  by_cases e20 : K = 20
  · subst e20
    simp [wK, q5, k5]
    exact ⟨⟨20, 0, 0, 0, 0, 0, 0, 0⟩, rfl, rt0 (by omega), dF _, cF _⟩
  by_cases e21 : K = 21
  · subst e21
    simp [wK, q5, k5]
    exact ⟨⟨21, 0, 0, 0, 0, 0, 0, 0⟩, rfl, rt0 (by omega), dF _, cF _⟩
  by_cases e17 : K = 17
  · subst e17
    simp [wK]
    refine hx_drawn dc17_34 fun H6 c6 hl6 hd6 => ?_
    obtain ⟨b0, o0, cc, r, e0, g0, g1, g2, g3⟩ := SI.get (hs5.keep c6) (get_d hi)
    injection e0 with y1 y2 y3 y4
    subst y1 y3 y4
    obtain ⟨P, hP⟩ : ∃ P, c.ins[i].p = P := ⟨_, rfl⟩
    rw [hP] at hpr
    have g4 : r[o0 + i * 4 + 1]? = some (.int .i64 P) := by rw [g3 1 (by omega), ← hP]; rfl
    have hbp : b0 ≠ p := fun e => hv (by simp [e])
    have s6 := c6.get r05 (by simp)
    have q6 := rowOf_rw s6
    simp [d17_34, q6, hi, hi', g0, g4]
    refine Hx.mapp (n_ok (d5.keep c6) (by omega) (m := 60) (by omega) (by omega)) ?_
    rintro ⟨r', H7⟩ ⟨y, e, hy, d7, c7⟩
    simp only at e d7 c7
    subst e
    have s7 := c7.get s6 (by simp; omega)
    have q7 := rowOf_rw s7
    have t7 : rowOf H7 b0 = some r := c7.row g0 (by simp; exact hbp)
    have wy : IntKind.i64.wrap (1 + y) = 1 + y := wrap_i64 (by omega) (by omega)
    simp [wy]
    refine Hx.mapp (n_ok d7 (by omega) (m := 20) (by omega) (by omega)) ?_
    rintro ⟨r', H8⟩ ⟨z, e, hz, d8, c8⟩
    simp only at e d8 c8
    subst e
    have s8 := c8.get s7 (by simp; omega)
    have q8 := rowOf_rw s8
    have t8 : rowOf H8 b0 = some r := c8.row t7 (by simp; exact hbp)
    have c68 : Chg [p] H5 H8 := (c6.nil.tr' c7).tr' c8
    have r8 := c68.get r15 (by simp; omega)
    have qq8 := rowRw_rw r8
    have k8 : ∀ l, rowOf (H8.set (H.length + 1) (.cells l .rw)) (H.length + 1) = some l := fun l => rowOf_self (lt_of_get r8)
    have wz : IntKind.i64.wrap (1 + z) = 1 + z := wrap_i64 (by omega) (by omega)
    simp only [E8.cs, bare] at qq8
    simp [wz, q7, q8, t7, t8, qq8, k8, hi, hi', g4]
    exact ⟨⟨17, 0, A, 0, 0, 1 + y, 1 + z, P⟩, rfl, rt17 hA2 (by omega) (by omega) hpr, (d8.more (by omega)).chg (.set _ _ _) (by simp; omega), (c05.tr' c68).set_new (by omega) _⟩
  by_cases e19 : K = 19
  · subst e19
    simp [wK]
    refine Hx.mapp (n_ok d5 (by omega) (m := 60) (by omega) (by omega)) ?_
    rintro ⟨r', H6⟩ ⟨y, e, hy, dH6, cH6⟩
    simp only at e dH6 cH6
    subst e
    have wy : IntKind.i64.wrap (1 + y) = 1 + y := wrap_i64 (by omega) (by omega)
    simp [wy]
    refine Hx.mapp (n_ok dH6 (by omega) (m := 80) (by omega) (by omega)) ?_
    rintro ⟨r', H7⟩ ⟨z, e, hz, dH7, cH7⟩
    simp only at e dH7 cH7
    subst e
    have wz : IntKind.i64.wrap (z - 60) = z - 60 := wrap_i64 (by omega) (by omega)
    have r7 := cH7.get (cH6.get r15 (by simp; omega)) (by simp; omega)
    have q7 := rowRw_rw r7
    have k7 : ∀ l, rowOf (H7.set (H.length + 1) (.cells l .rw)) (H.length + 1) = some l := fun l => rowOf_self (lt_of_get r7)
    simp only [E8.cs, bare] at q7
    simp [q7, k7, wz]
    exact ⟨⟨19, M, 0, 0, 0, 1 + y, 0, z - 60⟩, rfl, rt19 hM2 (by omega) (by omega), (dH7.more (by omega)).chg (.set _ _ _) (by simp; omega), ((c05.tr' cH6).tr' cH7).set_new (by omega) _⟩
  simp [wK, e1, e11, e12, e13, e2, e3, e4, e5, e22, e6, e8, e9, e10, e14, e15, e16, e18, e20, e21, e17, e19, q05]
  refine Hx.mapp (order_ok (c := c) d5 (by omega) hs5 hv hr) ?_
  rintro ⟨r', H6⟩ ⟨E, e, hE, d6, c6⟩
  simp only at e d6 c6
  subst e
  have r6 := c6.get r15 (by simp; omega)
  have q6 := rowRw_rw r6
  have k6 : ∀ l, rowOf (H6.set (H.length + 1) (.cells l .rw)) (H.length + 1) = some l := fun l => rowOf_self (lt_of_get r6)
  simp only [E8.cs, bare] at q6
  simp [q6, k6, E8.cs]
  exact ⟨E, ⟨rfl, rfl, rfl, rfl, rfl, rfl, rfl, rfl⟩, hE, (d6.more (by omega)).chg (.set _ _ _) (by simp; omega), (c05.tr' c6).set_new (by omega) _⟩
end
end Go.Proofs.Ytdhedlkfpdakpaa.T
