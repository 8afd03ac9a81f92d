import Derived.Test.YtpinfljbccjbkaaGL104
section
/-! QueueDrawn. -/
set_option linter.unusedVariables false
set_option linter.unusedSimpArgs false
set_option maxHeartbeats 4000000
set_option maxRecDepth 100000
namespace Go.Proofs.Ytpinfljbccjbkaa.T.Qu
open Go Go.Ab
section
variable {k p n : Nat} {H : AH}
theorem queueDrawn_ok {v : AV} {L : List Int} {id : Int} (h : SL H 1 v (u64s L)) (hL : ∀ x ∈ L, U64 x) (hk : 1000 < k) : Hx (callA ap k (.func 3 [] []) [v, .int .i64 id] 0 H) fun r => r.1 = .bool true := by
  obtain ⟨k, rfl⟩ : ∃ k', k = k' + 9 := ⟨k - 9, by omega⟩
  rw [hx_go fn3 rfl, b3]
  obtain ⟨va, vc, vs, rfl⟩ := h.form1
  simp
  refine Hx.mapp (known_ok (k := k + 8) (by omega)) ?_
  rintro ⟨r, H0⟩ ⟨e, c0⟩
  simp only at e c0
  subst e
  simp
  have h' := h.keep c0
  rw [u64s_len] at h'
  refine Hx.mapp (of_ok (k := k + 7) h' hL) ?_
  rintro ⟨r, H1⟩ ⟨e, d1, c1⟩
  simp only at e d1 c1
  subst e
  obtain ⟨p, hp⟩ : ∃ p, p = H0.length := ⟨_, rfl⟩
  rw [← hp] at d1 ⊢
  simp
  refine Hx.mapp (norders_ok (k := k + 8) (most := 32) d1 (by omega) (by omega) (by omega)) ?_
  rintro ⟨v0, H2⟩ ⟨os, id', hv, hdr, hlen, d2, c2, hb⟩
  simp only at hv d2 c2 hb
  obtain ⟨a0, c0', s0, e0⟩ := SO.form hv.sl
  subst e0
  simp
  refine Hx.mapp (n_ok (k := k + 6) d2 (by omega) (m := 5) (by omega) (by omega)) ?_
  rintro ⟨r, H3⟩ ⟨x1, e, hx1, d3, c3⟩
  simp only at e d3 c3
  subst e
  have w1 : IntKind.i64.wrap (1 + x1) = 1 + x1 := wrap_i64 (by omega) (by omega)
  simp [w1]
  refine Hx.mapp (n_ok (k := k + 6) d3 (by omega) (m := 2) (by omega) (by omega)) ?_
  rintro ⟨r, H4⟩ ⟨x2, e, hx2, d4, c4⟩
  simp only at e d4 c4
  subst e
  have w2 : IntKind.i64.wrap (1 + x2) = 1 + x2 := wrap_i64 (by omega) (by omega)
  obtain ⟨o, eo⟩ : ∃ o : Od, o = ⟨id, 1 + x1, 0, 1 + x2, 1, 1⟩ := ⟨_, rfl⟩
  obtain ⟨G, eG⟩ : ∃ G, G = H4 ++ [.cells o.cs .rw] := ⟨_, rfl⟩
  have cG : Chg [] H4 G := by rw [eG]; exact .app _ _
  have rG : rowOf G H4.length = some o.cs := by rw [eG]; simp [Od.cs]
  have hp4 : p < H4.length := d4.lt
  have c24 : Chg [p] H2 H4 := c3.tr' c4
  have hpv : ∀ i ∈ blk (AV.slice a0 os.length c0' s0), i ∉ [p] := fun i hi => by have := hb i hi; have := d1.lt; simp; omega
  have hosG : SO G (.slice a0 os.length c0' s0) os := (hv.chg c24 hpv).sl.keep cG
  have dG := d4.keep cG
  simp only [Od.cs, eo] at eG
  simp [w2]
  rw [← eG]
  refine hx_up (fun i st => ∃ H', st = ⟨sp 46 [(5, .ptr (some (p, 0))), (6, .slice a0 os.length c0' s0), (7, .ptr (some (H4.length, 0))), (8, .int .i64 i)], H', []⟩ ∧ Chg [p] G H' ∧ Dk H' p (1000 + i)) 3 ?_ ?_ (by omega) ⟨G, by simp [maskS], .refl, dG.more (by omega)⟩
  · rintro i st hi ⟨H5, rfl, c5, d5⟩
    have hi' : (i : Int) < 3 := by omega
    have wi : IntKind.i64.wrap ((i : Int) + 1) = (i : Int) + 1 := wrap_i64 (by omega) (by omega)
    have v1 : IntKind.i64.wrap (2 * (i : Int)) = 2 * (i : Int) := wrap_i64 (by omega) (by omega)
    have v2 : IntKind.i64.wrap (1 + (i : Int)) = 1 + (i : Int) := wrap_i64 (by omega) (by omega)
    have v3 : (i : Int).tmod 2 = (i : Int) % 2 := Int.tmod_eq_emod_of_nonneg (by omega)
    have v4 : IntKind.i64.wrap (1 + (i : Int) % 2) = 1 + (i : Int) % 2 := wrap_i64 (by omega) (by omega)
    have hos5 : SO H5 (.slice a0 os.length c0' s0) os := SL.chg hosG c5 hpv
    have r5 := c5.row rG (by simp; omega)
    simp [hi']
    refine hx_drawn dc3_9 fun X cX hl hd => ?_
    have dX := d5.keep cX
    have rX := cX.row r5 (by simp)
    have hd5 := hd 5 (by simp [d3_9])
    simp only [Od.cs, eo] at rX
    simp [d3_9, rX, v1, v2, v3, v4]
    refine Hx.mapp (n_ok (k := k + 6) dX (by omega) (m := 40) (by omega) (by omega)) ?_
    rintro ⟨r, X1⟩ ⟨x3, e, hx3, dX1, cX1⟩
    simp only at e dX1 cX1
    subst e
    have v5 : IntKind.i64.wrap (1 + x3) = 1 + x3 := wrap_i64 (by omega) (by omega)
    have hpX := dX.lt
    have hp5 := d5.lt
    have hd51 := cX1.get hd5 (by simp; omega)
    have rX1 := cX1.row rX (by simp; omega)
    obtain ⟨X2, e2⟩ : ∃ X2, X2 = X1.set (H5.length + 5) (.cells [.int .i64 i, .int .i64 (2 * (i : Int))] .pl) := ⟨_, rfl⟩
    have cX2 : Chg [H5.length + 5] X1 X2 := by rw [e2]; exact .set _ _ _
    have ra2 : rowOf X2 (H5.length + 5) = some [.int .i64 i, .int .i64 (2 * (i : Int))] := by rw [e2]; simp [rowOf, lt_of_get hd51]
    have hw2 : SL X2 1 (.slice (some (H5.length + 5, 0)) 2 (some 2) 1) (ints [(i : Int), 2 * (i : Int)]) := .at_ _ 0 2 (some 2) [.int .i64 i, .int .i64 (2 * (i : Int))] _ (by omega) ra2 (by simp) (by simp [ints]) (by simp)
    have hosX1 := SL.chg (hos5.keep cX) cX1 hpv
    have hosX2 := SL.chg hosX1 cX2 (fun i hi => by have := hos5.lt i hi; simp; omega)
    have hl45 := rowOf_lt r5
    have rX2 := cX2.row rX1 (by simp; omega)
    have ht := told_ok (k := k + 8) (o := o) (acc := 1 + (i : Int)) (inst := i) (side := 1 + (i : Int) % 2) (id := 1 + x3) hosX2 hw2 (by omega) (by simp) (by omega)
    simp only [Od.cs, eo, tag_eq] at ht
    simp [hd5, hd51, v5, rX1]
    rw [← e2]
    refine Hx.mapp ht ?_
    rintro ⟨r, X3⟩ ⟨e, cX3⟩
    simp only at e cX3
    subst e
    have rX3 := cX3.row rX2 (by simp)
    simp [rX2, rX3, maskS, wi]
    have hl5G := c5.1
    have cX' : Chg [p] G X1 := c5.tr' (cX.nil.tr' cX1)
    exact ⟨(cX'.trans cX2 (fun i hi => .inr (by simp at hi; omega))).tr cX3, ((dX1.chg cX2 (fun i hi => by simp at hi; omega)).keep cX3).more (by omega)⟩
  · rintro st ⟨H5, rfl, c5, d5⟩
    have hr := right_ok (k := k + 8) (SL.chg hosG c5 hpv) (by omega) (by omega)
    rw [hdr.right hlen] at hr
    simp [hr]
theorem queueDrawn_main (H : AH) (ass : List (List AV)) (hl : ass.length = [22, 2].length) (ha : ∀ (i : Nat) t al, [22, 2][i]? = some t → ass[i]? = some al → AR ap 6 H t al) :
    Hx (callA ap 2000 (.func 3 [] []) (List.zipWith (argA ap) [22, 2] ass) 0 H) fun r => r.1 = .bool true := by
  match ass, hl with
  | [a0, a1], _ =>
    obtain ⟨v, L, rfl, h0, hL⟩ := ar_u64s (ha 0 22 a0 rfl rfl) ty22 rfl ty58 rfl rfl
    obtain ⟨c, rfl, w1⟩ := ar_int (ha 1 2 a1 rfl rfl) ty2 rfl
    simp only [List.zipWith_cons_cons, List.zipWith_nil_right, argA_one ty22 rfl, argA_one ty2 rfl]
    exact queueDrawn_ok h0 hL (by omega)
end
end Go.Proofs.Ytpinfljbccjbkaa.T.Qu
end
