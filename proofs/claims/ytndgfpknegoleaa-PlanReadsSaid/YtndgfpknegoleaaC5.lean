import Derived.Test.YtndgfpknegoleaaC4
/-! PlanAll. -/
set_option linter.unusedVariables false
set_option linter.unusedSimpArgs false
set_option maxHeartbeats 4000000
set_option maxRecDepth 100000
namespace Go.Proofs.Ytndgfpknegoleaa.T
open Go Go.Ab
section
variable {k : Nat} {H : AH} {v w : AV}
theorem bk_small {c : Cf} {n : Int} : (bkC c n).length ≤ c.ins.length := by
  unfold bkC
  split
  · exact bk_le n c.ins 0
  · simp
theorem planAll_ok {a b : Cf} {n : Int} (ha : SI H v a.ins) (hb : SI H w b.ins) (hf : FitC a) (hk : 200 < k) : Hx (callA ap k (.func 3 [] []) [.agg (a.cs v), .agg (b.cs w), .int .i64 n] 0 H) fun r => r.1 = .bool true ∧ Chg [] H r.2 := by
  obtain ⟨k, rfl⟩ : ∃ k', k = k' + 2 := ⟨k - 2, by omega⟩
  rw [hx_call fn3 rfl]
  obtain ⟨xa, xc, xs, rfl⟩ := ha.form
  obtain ⟨ya, yc, ys, rfl⟩ := hb.form
  obtain ⟨H1, e1⟩ : ∃ H1, H1 = H ++ [.cells (a.cs (.slice xa a.ins.length xc xs)) .rw, .cells (b.cs (.slice ya b.ins.length yc ys)) .rw] := ⟨_, rfl⟩
  have c1 : Chg [] H H1 := by rw [e1]; exact .app _ _
  have gA : H1[H.length]? = some (.cells (a.cs (.slice xa a.ins.length xc xs)) .rw) := by rw [e1]; simp
  have gB : H1[H.length + 1]? = some (.cells (b.cs (.slice ya b.ins.length yc ys)) .rw) := by rw [e1]; simp
  simp only [Cf.cs] at e1 gA gB
  by_cases h20 : (20 : Int) < a.ins.length
  · simp [f3, b3, Cf.cs, known_ok, h20]
    exact .app _ _
  by_cases h21 : (20 : Int) < b.ins.length
  · simp [f3, b3, Cf.cs, known_ok, h20, h21]
    exact .app _ _
  have hla : a.ins.length ≤ 1000000 := by omega
  have hlb : b.ins.length ≤ 1000000 := by omega
  simp [f3, b3, Cf.cs, known_ok, h20, h21]
  rw [← e1]
  refine Hx.mapp (put_ok (c := a) (ha.keep c1) hla hf (by omega)) ?_
  rintro ⟨r, H2⟩ ⟨x, e, hx⟩
  simp only at e hx
  subst e
  have c2 := hx.2.1
  have gA2 := c2.get gA (by simp)
  simp [rowOf_rw gA2]
  refine Hx.mapp (rput_ok (c := a) (ha.keep (c1.tr c2)) hla hf (by omega)) ?_
  rintro ⟨r, H3⟩ ⟨y, e, hy⟩
  simp only at e hy
  subst e
  have c3 := c2.tr hy.2.1
  simp
  refine hx_drawn dc3_7 fun H4 d4 hl4 hd4 => ?_
  have c4 := c3.tr d4
  have gA4 := rowOf_rw (c4.get gA (by simp))
  simp [d3_7, gA4]
  refine Hx.mapp (right_ok (c := a) (ha.keep (c1.tr c4)) hla (by omega)) ?_
  rintro ⟨r, H5⟩ ⟨e, d5⟩
  simp only at e d5
  subst e
  have c5 := c4.tr d5
  have gA5 := rowOf_rw (c5.get gA (by simp))
  have d5 := d4.tr d5
  simp
  refine Hx.mapp (rright_ok (c := a) (ha.keep (c1.tr c5)) hla (by omega)) ?_
  rintro ⟨r, H6⟩ ⟨e, d6⟩
  simp only at e d6
  subst e
  have c6 := c5.tr d6
  have d6 := d5.tr d6
  have gA6 := rowOf_rw (c6.get gA (by simp))
  have gB6 := rowOf_rw (c6.get gB (by simp))
  simp [eqV, gA6, gB6]
  refine Hx.mapp (same_ok (a := a) (b := b) (ha.keep (c1.tr c6)) (hb.keep (c1.tr c6)) hla hlb (by omega)) ?_
  rintro ⟨r, H7⟩ ⟨e, d7⟩
  simp only at e d7
  subst e
  have c7 := c6.tr d7
  have d7 := d6.tr d7
  have gA7 := rowOf_rw (c7.get gA (by simp))
  have gB7 := rowOf_rw (c7.get gB (by simp))
  simp [gA7, gB7]
  refine Hx.mapp (rsame_ok (a := a) (b := b) (ha.keep (c1.tr c7)) (hb.keep (c1.tr c7)) hla hlb (by omega)) ?_
  rintro ⟨r, H8⟩ ⟨e, d8⟩
  simp only at e d8
  subst e
  have c8 := c7.tr d8
  have d8 := d7.tr d8
  have gA8 := rowOf_rw (c8.get gA (by simp))
  simp [eqV, gA8]
  refine Hx.mapp (same_ok (a := a) (b := a) (ha.keep (c1.tr c8)) (ha.keep (c1.tr c8)) hla hla (by omega)) ?_
  rintro ⟨r, H9⟩ ⟨e, d9⟩
  simp only at e d9
  subst e
  have c9 := c8.tr d9
  have d9 := d8.tr d9
  have gA9 := rowOf_rw (c9.get gA (by simp))
  have tx := toStr_b8 (hx.1.sl.keep (hy.2.1.tr d9))
  have ty := toStr_b8 (hy.1.sl.keep d9)
  simp [gA9, tx, ty, eqV]
  refine Hx.mapp (bucket_ok (c := a) (n := n) (ha.keep (c1.tr c9)) hla (by omega)) ?_
  rintro ⟨p, H10⟩ hp
  simp only at hp
  have c10 := c9.tr hp.2.1
  have gA10 := rowOf_rw (c10.get gA (by simp))
  simp [gA10]
  refine Hx.mapp (rbucket_ok (c := a) (n := n) (ha.keep (c1.tr c10)) hla (by omega)) ?_
  rintro ⟨q, H11⟩ hq
  simp only at hq
  have c11 := c10.tr hq.2.1
  have hs := bk_small (c := a) (n := n)
  simp
  refine Hx.mapp (nums_ok (hp.1.sl.keep hq.2.1) hq.1.sl (by omega) (by omega) (by omega)) ?_
  rintro ⟨r, H12⟩ ⟨e, d12⟩
  simp only at e d12
  subst e
  have c12 := c11.tr d12
  simp [gA5, gA6, gA7, gB7, gA10, c1.tr c12]
end
theorem wf_i64 {z : Int} (h : (Lit.int .i64 z).wf = true) : I64 z := by
  simp [Lit.wf, IntKind.has, IntKind.min, IntKind.max, IntKind.bits, IntKind.signed] at h
  unfold I64; omega
theorem ar_i4 {m : Nat} {H : AH} {al : List AV} (h : AR ap m H 41 al) : ∃ x : I4, al = x.cs := by
  obtain ⟨parts, m', rfl, hl, hp⟩ := ar_struct h ty41 rfl
  match parts, hl with
  | [p0, p1, p2, p3], _ =>
    obtain ⟨z0, rfl, -⟩ := ar_int (hp 0 (0, 3) p0 rfl rfl) ty3 rfl
    obtain ⟨z1, rfl, -⟩ := ar_int (hp 1 (1, 2) p1 rfl rfl) ty2 rfl
    obtain ⟨z2, rfl, -⟩ := ar_int (hp 2 (2, 2) p2 rfl rfl) ty2 rfl
    obtain ⟨z3, rfl, -⟩ := ar_int (hp 3 (3, 2) p3 rfl rfl) ty2 rfl
    exact ⟨⟨z0, z1, z2, z3⟩, rfl⟩
theorem ar_cf {m : Nat} {H : AH} {al : List AV} (h : AR ap m H 24 al) : ∃ v c, al = Cf.cs c v ∧ SI H v c.ins ∧ FitC c := by
  obtain ⟨parts, m', rfl, hl, hp⟩ := ar_struct h ty24 rfl
  match parts, hl with
  | [p0, p1, p2, p3, p4, p5, p6], _ =>
    obtain ⟨v, es, m2, rfl, hs, he⟩ := ar_slice (hp 0 (0, 22) p0 rfl rfl) ty22 rfl ty41
    obtain ⟨z1, rfl, w1⟩ := ar_int (hp 1 (1, 2) p1 rfl rfl) ty2 rfl
    obtain ⟨z2, rfl, w2⟩ := ar_int (hp 2 (2, 3) p2 rfl rfl) ty3 rfl
    obtain ⟨z3, rfl, w3⟩ := ar_int (hp 3 (3, 2) p3 rfl rfl) ty2 rfl
    obtain ⟨z4, rfl, w4⟩ := ar_int (hp 4 (4, 2) p4 rfl rfl) ty2 rfl
    obtain ⟨z5, rfl, w5⟩ := ar_int (hp 5 (5, 2) p5 rfl rfl) ty2 rfl
    obtain ⟨z6, rfl, w6⟩ := ar_int (hp 6 (6, 2) p6 rfl rfl) ty2 rfl
    obtain ⟨l, hl, hq⟩ := list_choose (R := fun (x : List AV) (a : I4) => x = a.cs) es (fun x hx => ar_i4 (he x hx).2)
    have hes : es = l.map I4.cs := by
      refine List.ext_getElem? fun i => ?_
      rw [List.getElem?_map]
      by_cases hi : i < es.length
      · have := hq i es[i] l[i] (List.getElem?_eq_getElem hi) (List.getElem?_eq_getElem (by omega))
        rw [List.getElem?_eq_getElem hi, List.getElem?_eq_getElem (by omega), this]
        rfl
      · rw [List.getElem?_eq_none (by omega), List.getElem?_eq_none (by omega)]
        rfl
    exact ⟨v, ⟨l, z1, z2, z3, z4, z5, z6⟩, rfl, by rw [hes] at hs; exact hs, wf_i64 w1, wf_i64 w6⟩
theorem argA_agg {t : Nat} {ti : TI} {al : List AV} (ht : ap.ty t = some ti) (h : ti.td.isAgg = true) : argA ap t al = .agg al := by
  unfold argA
  rw [ht]
  exact if_pos h
theorem planAll_main (H : AH) (ass : List (List AV)) (hl : ass.length = [24, 24, 3].length) (ha : ∀ (i : Nat) t al, [24, 24, 3][i]? = some t → ass[i]? = some al → AR ap 6 H t al) :
    Hx (callA ap 2000 (.func 3 [] []) (List.zipWith (argA ap) [24, 24, 3] ass) 0 H) fun r => r.1 = .bool true := by
  match ass, hl with
  | [a0, a1, a2], _ =>
    obtain ⟨v, a, rfl, h0, f0⟩ := ar_cf (ha 0 24 a0 rfl rfl)
    obtain ⟨w, b, rfl, h1, f1⟩ := ar_cf (ha 1 24 a1 rfl rfl)
    obtain ⟨n, rfl, -⟩ := ar_int (ha 2 3 a2 rfl rfl) ty3 rfl
    simp only [List.zipWith_cons_cons, List.zipWith_nil_right, argA_agg ty24 rfl, argA_one ty3 rfl]
    exact (planAll_ok h0 h1 f0 (by omega)).mono fun r h => h.1
end Go.Proofs.Ytndgfpknegoleaa.T
