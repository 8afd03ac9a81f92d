import Derived.Test.YtndgfpknegoleaaC12
/-! ReadPlan: the document's. -/
set_option linter.unusedVariables false
set_option linter.unusedSimpArgs false
set_option maxHeartbeats 4000000
set_option maxRecDepth 100000
namespace Go.Proofs.Ytndgfpknegoleaa.T
open Go Go.Ab
section
variable {k : Nat} {H : AH} {b : AV} {bs : List Int}
theorem own_step {l : List Int} {at_ kk : Nat} {v : Int} (hB : Byt bs) (h : encs l = bs.take at_) (hr : rdn true (bs.drop at_) 0 0 = some (v, kk)) (ha : at_ ≤ bs.length) : encs (l ++ [v]) = bs.take (at_ + kk) := by
  obtain ⟨h1, h2, h3⟩ := rdn_own (hB.drop at_) hr
  rw [encs_app, encs_one, h, List.take_add]
  congr 1
  rw [h3, h2, List.take_left' rfl]
theorem rread_ok (hb : B8 H b bs) (hB : Byt bs) (hl : bs.length ≤ 100000) (hk : 400 < k) :
    Hx (callA ap k (.func 21 [] []) [b] 0 H) fun r => Chg [] H r.2 ∧ ReadsC bs r.2 r.1 := by
  obtain ⟨k, rfl⟩ : ∃ k', k = k' + 30 := ⟨k - 30, by omega⟩
  rw [hx_call fn21 rfl]
  obtain ⟨a, c, s, rfl⟩ := hb.len8
  simp [f21, b21]
  obtain ⟨H1, e1⟩ : ∃ H1, H1 = H ++ [.cells (Cf.cs .zero (.slice none 0 (some 0) 0)) .rw] := ⟨_, rfl⟩
  have c1 : Chg [] H H1 := by rw [e1]; exact .app _ _
  have r1 : H1[H.length]? = some (.cells (Cf.cs .zero (.slice none 0 (some 0) 0)) .rw) := by rw [e1]; simp
  simp only [Cf.cs, Cf.zero] at e1 r1
  rw [← e1]
  have hlt0 : H.length < H1.length := lt_of_get r1
  have rej0 : (∀ c, rightC c = true → FitC c → putB c ≠ bs) → ∀ X, ReadsC bs X (.tuple [.agg [AV.slice none 0 (some 0) 0, AV.int IntKind.i64 0, AV.int IntKind.i64 0, AV.int IntKind.i64 0, AV.int IntKind.i64 0, AV.int IntKind.i64 0, AV.int IntKind.i64 0], .int .i64 13]) :=
    fun h X => .inr ⟨rfl, h⟩
  refine Hx.mapp (rnum_ok (hb.keep c1) hB (by omega) (at_ := 0) (by omega)) ?_
  rintro ⟨r, H2⟩ e
  simp only [Prod.mk.injEq] at e
  obtain ⟨rfl, e⟩ := e
  replace e := e.symm
  subst e
  have rw1 := rowRw_rw r1
  have ro1 := rowOf_rw r1
  have hrl := rowOf_self (H := H1) (b := H.length) (l := [AV.slice none 0 (some 0) 0, AV.int IntKind.i64 0, AV.int IntKind.i64 0, AV.int IntKind.i64 0, AV.int IntKind.i64 0, AV.int IntKind.i64 0, AV.int IntKind.i64 0]) hlt0
  have cset : ∀ X, Chg [] H (H1.set H.length X) := fun X => c1.set_new (Nat.le_refl _) _
  cases e0 : rdn true (bs.drop 0) 0 0 with
  | none =>
    have rej := rej0 fun c hr hf e => by
      have : 0 < bs.length := by
        rw [← e]
        unfold putB
        have h2 := congrArg List.length (rfl : encs (flat c) = encs (flat c))
        simp only [flat, List.cons_append, encs_cons, List.length_append]
        have := (enc_len c.ins.length).1
        omega
      exact says_none true (says_0 bs) this e0 _ (flat_i64 hr hf) e
    simp [rw1, ro1, hrl, cset, rej]
  | some vk =>
    obtain ⟨z, at1⟩ := vk
    have hs0 := says_some true (says_0 bs) e0
    have ho0 := own_step (l := []) hB (by simp [encs]) e0 (by omega)
    have hfar := rdn_far true _ 0 0 z at1 e0 (by omega) (by decide)
    simp only [List.nil_append, Nat.zero_add, List.drop_zero, Nat.sub_zero] at hs0 ho0 hfar
    have hz2 : ∀ c, rightC c = true → FitC c → putB c = bs → z = c.ins.length := fun c hr hf e => by
      obtain ⟨M, h1, h2⟩ := hs0 _ (flat_i64 hr hf) e
      have := flat_get0 c
      rw [h1] at this
      simpa using this
    have hnn : ¬ ((at1 : Int) < 0) := by omega
    by_cases hz : 1 ≤ z ∧ z ≤ 6
    case neg =>
      have rej := rej0 fun c hr hf e => by
        have h1 := hz2 c hr hf e
        have h2 := right_len hr
        omega
      by_cases hz1 : z < 1
      · simp [rw1, ro1, hrl, cset, rej, hnn, hz1]
      · have hz6 : 6 < z := by omega
        simp [rw1, ro1, hrl, cset, rej, hnn, hz1, hz6]
    case pos =>
      obtain ⟨n, rfl⟩ : ∃ n : Nat, z = n := ⟨z.toNat, by omega⟩
      have hz1 : ¬ (n : Int) < 1 := by omega
      have hz6 : ¬ (6 : Int) < (n : Int) := by omega
      have w1 : IntKind.i64.wrap (4 * (n : Int)) = 4 * (n : Int) := wrap_i64 (by omega) (by omega)
      have w2 : IntKind.i64.wrap (4 * (n : Int) + 6) = 4 * (n : Int) + 6 := wrap_i64 (by omega) (by omega)
      simp [hnn, hz1, hz6]
      refine hx_up (fun i s' => ∃ H' x l at_, s' = ⟨sp 122 [(0, .slice a bs.length c s), (2, .ptr (some (H.length, 0))), (4, .int .i64 n), (5, .int .i64 (at_ : Nat)), (6, x), (7, .int .i64 i)], H', []⟩ ∧ NewN H1 H' x l ∧ l.length = i ∧ at_ ≤ bs.length ∧ (∀ m ∈ l, I64 m) ∧ Says bs ((n : Int) :: l) at_ ∧ encs ((n : Int) :: l) = bs.take at_) (4 * n + 6) ?_ ?_ (by omega)
        ⟨H1, .slice none 0 (some 0) 0, [], at1, by simp [maskS], ⟨.nil _ _, .refl, by simp⟩, rfl, by omega, by simp, hs0, ho0⟩
      · rintro i _ hi ⟨H2, x, l, at_, rfl, nx, hli, hat, hl64, hs, ho⟩
        have hi' : (i : Int) < 4 * (n : Int) + 6 := by omega
        have r2 := nx.2.1.get r1 (by simp)
        have rw2 := rowRw_rw r2
        have hrl2 := rowOf_self (H := H2) (b := H.length) (l := [AV.slice none 0 (some 0) 0, AV.int IntKind.i64 0, AV.int IntKind.i64 0, AV.int IntKind.i64 0, AV.int IntKind.i64 0, AV.int IntKind.i64 0, AV.int IntKind.i64 0]) (lt_of_get r2)
        have cset2 : ∀ X, Chg [] H (H2.set H.length X) := fun X => (c1.tr nx.2.1).set_new (Nat.le_refl _) _
        simp [w1, w2, hi']
        refine Hx.mapp (rnum_ok (hb.keep (c1.tr nx.2.1)) hB (by omega) (at_ := at_) hat) ?_
        rintro ⟨r, H3⟩ e
        simp only [Prod.mk.injEq] at e
        obtain ⟨rfl, e⟩ := e
        replace e := e.symm
        subst e
        cases e0 : rdn true (bs.drop at_) 0 0 with
        | none =>
          have rej := rej0 fun c hr hf e => by
            obtain ⟨M, h1, h2⟩ := hs _ (flat_i64 hr hf) e
            have hz := hz2 c hr hf e
            have h3 := congrArg List.length h1
            simp at h3
            by_cases hlt : at_ < bs.length
            · exact says_none true hs hlt e0 _ (flat_i64 hr hf) e
            · rw [List.drop_of_length_le (by omega)] at h2
              rw [encs_nil_iff h2] at h3
              simp at h3
              omega
          simp [rw2, hrl2, cset2, rej]
        | some vk =>
          obtain ⟨v, kk⟩ := vk
          have hs' := says_some true hs e0
          have ho' := own_step hB ho e0 hat
          have hfar := rdn_far true _ 0 0 v kk e0 (by omega) (by decide)
          have hnk : ¬ (at_ : Int) + (kk : Int) < 0 := by omega
          have w3 : IntKind.i64.wrap ((i : Int) + 1) = (i : Int) + 1 := wrap_i64 (by omega) (by omega)
          simp at hfar
          simp [hnk]
          have sn : SN (H2 ++ [.cells [.int .i64 v] .rw]) (.slice (some (H2.length, 0)) 1 (some 1) 1) [v] := sn_new (cs := [v]) rfl rfl (by simp)
          refine Hx.mapp (nx.push sn (.app _ _) (by simp; unfold room; omega)) ?_
          rintro ⟨y, H3⟩ hy
          simp only at hy
          simp [w3]
          refine ⟨H3, y, l ++ [v], at_ + kk, by simp [maskS], hy, by simp [hli], by omega, ?_, hs', ho'⟩
          intro m hm
          rcases List.mem_append.1 hm with hm | hm
          · exact hl64 m hm
          · obtain rfl : m = v := by simpa using hm
            exact hfar.2.2.2
      · rintro _ ⟨H2, x, l, at_, rfl, nx, hli, hat, hl64, hs, ho⟩
        have hi' : ¬ 4 * (n : Int) + 6 < 4 * (n : Int) + 6 := by omega
        simp [w1, w2]
        obtain ⟨G, eG⟩ : ∃ G, G = H2 ++ [.cells [AV.slice none 0 (some 0) 0, AV.int IntKind.i64 0, AV.int IntKind.i64 0, AV.int IntKind.i64 0, AV.int IntKind.i64 0, AV.int IntKind.i64 0, AV.int IntKind.i64 0] .rw] := ⟨_, rfl⟩
        have cG : Chg [] H2 G := by rw [eG]; exact .app _ _
        have rG : G[H2.length]? = some (.cells [AV.slice none 0 (some 0) 0, AV.int IntKind.i64 0, AV.int IntKind.i64 0, AV.int IntKind.i64 0, AV.int IntKind.i64 0, AV.int IntKind.i64 0, AV.int IntKind.i64 0] .rw) := by rw [eG]; simp
        have lG : G.length = H2.length + 1 := by rw [eG]; simp
        rw [← eG]
        have snG := nx.1.sl.keep cG
        obtain ⟨xb, xo, xc, xr, ex, g0, g1, g2⟩ := SN.all snG (by intro h; rw [h] at hli; simp at hli)
        subst ex
        have hxb : xb < H2.length := nx.1.lt xb (by simp)
        obtain ⟨q, hq⟩ : ∃ q, H2.length = q := ⟨_, rfl⟩
        rw [hq] at rG hxb lG
        simp only [hq]
        refine hx_up (fun i s' => ∃ H' vi, s' = ⟨sp 122 [(0, .slice a bs.length c s), (2, .ptr (some (H.length, 0))), (4, .int .i64 n), (5, .int .i64 (at_ : Nat)), (6, .slice (some (xb, xo)) l.length xc 1), (10, .ptr (some (q, 0))), (11, .int .i64 i)], H', []⟩ ∧ Chg [q] G H' ∧ H'[q]? = some (.cells [vi, AV.int IntKind.i64 0, AV.int IntKind.i64 0, AV.int IntKind.i64 0, AV.int IntKind.i64 0, AV.int IntKind.i64 0, AV.int IntKind.i64 0] .rw) ∧ Mine H' 4 vi (insC (insOf i ((n : Int) :: l))) ∧ ∀ b ∈ blk vi, G.length ≤ b) n ?_ ?_ (by omega)
          ⟨G, .slice none 0 (some 0) 0, by simp [maskS], .refl, rG, .nil _ _, by simp⟩
        · rintro j _ hj ⟨H5, vi, rfl, d1, d2, d3, d4⟩
          have hj' : (j : Int) < (n : Int) := by omega
          simp [hj, hj']
          refine hx_drawn dc21_16 fun H6 c6 hl6 hd6 => ?_
          have rw6 := rowOf_rw (c6.get d2 (by simp))
          have g06 : rowOf H6 xb = some xr := c6.row (d1.row g0 (by simp; omega)) (by simp)
          have hb5 : xb < H5.length := by have := d1.1; omega
          obtain ⟨m0, hm0⟩ : ∃ m, m = 4 * j := ⟨_, rfl⟩
          obtain ⟨m1, hm1⟩ : ∃ m, m = 4 * j + 1 := ⟨_, rfl⟩
          obtain ⟨m2, hm2⟩ : ∃ m, m = 4 * j + 2 := ⟨_, rfl⟩
          obtain ⟨m3, hm3⟩ : ∃ m, m = 4 * j + 3 := ⟨_, rfl⟩
          have hw0 : IntKind.i64.wrap (4 * (j : Int)) = (m0 : Int) := by rw [wrap_i64 (by omega) (by omega)]; omega
          have hw1 : IntKind.i64.wrap ((m0 : Int) + 1) = (m1 : Int) := by rw [wrap_i64 (by omega) (by omega)]; omega
          have hw2 : IntKind.i64.wrap ((m0 : Int) + 2) = (m2 : Int) := by rw [wrap_i64 (by omega) (by omega)]; omega
          have hw3 : IntKind.i64.wrap ((m0 : Int) + 3) = (m3 : Int) := by rw [wrap_i64 (by omega) (by omega)]; omega
          have hl0 : m0 < l.length := by omega
          have hl1 : m1 < l.length := by omega
          have hl2 : m2 < l.length := by omega
          have hl3 : m3 < l.length := by omega
          have g20 := g2 m0 hl0
          have g21 := g2 m1 hl1
          have g22 := g2 m2 hl2
          have g23 := g2 m3 hl3
          have ins0 : insOf (j + 1) ((n : Int) :: l) = insOf j ((n : Int) :: l) ++ [⟨l.getD m0 0, l.getD m1 0, l.getD m2 0, l.getD m3 0⟩] := by
            rw [insOf_succ, hm0, hm1, hm2, hm3, show 1 + 4 * j = 4 * j + 1 by omega, show 2 + 4 * j = (4 * j + 1) + 1 by omega, show 3 + 4 * j = (4 * j + 2) + 1 by omega, show 4 + 4 * j = (4 * j + 3) + 1 by omega]
            simp only [List.getD_cons_succ]
          generalize hy0 : l.getD m0 0 = y0 at *
          generalize hy1 : l.getD m1 0 = y1 at *
          generalize hy2 : l.getD m2 0 = y2 at *
          generalize hy3 : l.getD m3 0 = y3 at *
          have hdd := hd6 26 (by decide)
          have hdd' : isDeadB H6[H5.length + 26]? = true := by rw [hdd]; rfl
          obtain ⟨H7, e7⟩ : ∃ H7, H7 = H6.set (H5.length + 26) (.cells [.int .i64 y0, .int .i64 y1, .int .i64 y2, .int .i64 y3] .rw) := ⟨_, rfl⟩
          have c7 : Chg [] H5 H7 := by rw [e7]; exact c6.set_new (by omega) _
          have q7 := rowOf_rw (c7.get d2 (by simp))
          have g7 : rowOf H7 xb = some xr := by rw [e7]; exact set_row g06 (by omega) _
          have w3 : IntKind.i64.wrap ((j : Int) + 1) = (j : Int) + 1 := wrap_i64 (by omega) (by omega)
          simp [d21_16, rw6, g06, g20, g21, g22, g23, hdd', hw0, hw1, hw2, hw3, hl0, hl1, hl2, hl3]
          rw [← e7]
          have sl7 : SL H7 4 (.slice (some (H5.length + 26, 0)) 1 (some 1) 4) (I4.cs ⟨y0, y1, y2, y3⟩) := by
            rw [e7]
            exact SL.mk (by omega) (rowOf_self (lt_of_get hdd)) (by simp [I4.cs]) (by simp)
          have one : AV.one vi = true := by obtain ⟨_, _, _, _, rfl, _⟩ := d3.sl.form; rfl
          refine Hx.mapp ((d3.keep c7).append sl7 (by omega) (by omega) (by simp [I4.cs]) (by simp [I4.cs]; unfold room; omega)) ?_
          rintro ⟨v8, H8⟩ ⟨m8, c8, k8⟩
          simp only at m8 c8 k8
          rw [← insC_snoc] at m8
          have nq : q ∉ blk vi := fun h => by have := d4 q h; omega
          have q8 := rowRw_rw (c8.get (c7.get d2 (by simp)) nq)
          have o8 : AV.one v8 = true ∧ ∃ a n c s, v8 = .slice a n c s := by obtain ⟨a, n, c, s, rfl, _⟩ := m8.sl.form; exact ⟨rfl, _, _, _, _, rfl⟩
          obtain ⟨o8, a8, n8, p8, s8, rfl⟩ := o8
          simp [q7, g7, g20, g21, g22, g23, q8, rw6, g06, w3, hw0, hw1, hw2, hw3, hl0, hl1, hl2, hl3]
          have c78 : Chg (blk vi) H5 H8 := c7.nil.trans c8 (fun i h => .inl h)
          have hG5 := d1.1
          have n8 : ∀ b ∈ blk (AV.slice a8 n8 p8 s8), G.length ≤ b := fun b hb => by
            rcases k8 b hb with hb | hb
            · exact d4 b hb
            · have := c7.1; omega
          have c9 : ∀ X, Chg (q :: blk vi) H5 (H8.set q X) := fun X => (c78.mono (fun i hi => .inl (by simp [hi])) : Chg (q :: blk vi) H5 H8).trans (.set _ _ _) (by simp)
          refine ⟨_, rfl, d1.trans (c9 _) ?_, _, List.getElem?_set_self ?_, ?_⟩
          · intro i hi; rcases List.mem_cons.1 hi with h | h
            · exact .inl (by simp [h])
            · have := d4 _ h; exact .inr (by omega)
          · have := c8.1; have := c7.1; omega
          · rw [ins0]
            exact ⟨m8.chg (.set _ _ _) (fun b hb => by have := n8 b hb; simp; omega), n8⟩
        · rintro _ ⟨H5, vi, rfl, d1, d2, d3, d4⟩
          have sn5 := snG.chg d1 (fun i hi => by simp at hi ⊢; omega)
          obtain ⟨v6, a6, s6, k6, _⟩ := SL.cut (low := some (.int .i64 (4 * n))) (high := none) sn5 Nat.one_pos (lo := 4 * n) (hi := l.length) (by omega) (by simp) (by simp [lowIs]) (by simp [highIs])
          replace s6 : SN H5 v6 (l.drop (4 * n)) := by
            show SL H5 1 v6 (i64s _)
            rw [i64s, List.map_drop]
            rw [Nat.mul_one, Nat.mul_one, List.take_of_length_le (by simp)] at s6
            exact s6
          simp [w1, a6]
          refine hx_drawn dc21_18 fun H6 c6 hl6 hd6 => ?_
          obtain ⟨bx, ox, cx, rx, ex, g0, g1, g2⟩ := SN.all (s6.keep c6) (by intro h; have := congrArg List.length h; simp at this; omega)
          have hlx : (l.drop (4 * n)).length = 6 := by simp; omega
          rw [hlx] at g1 g2 ex
          subst ex
          have hbx : bx = xb := by simpa using k6 bx (by simp)
          have wj6 : ∀ m, m < 6 → (l.drop (4 * n)).getD m 0 = ((n : Int) :: l).getD (4 * n + (m + 1)) 0 := fun m hm => by
            rw [List.getD_eq_getElem?_getD, List.getElem?_drop, ← List.getD_eq_getElem?_getD, show 4 * n + (m + 1) = (4 * n + m) + 1 by omega, List.getD_cons_succ]
          have g20 := g2 0 (by omega)
          have g21 := g2 1 (by omega)
          have g22 := g2 2 (by omega)
          have g23 := g2 3 (by omega)
          have g24 := g2 4 (by omega)
          have g25 := g2 5 (by omega)
          rw [wj6 _ (by omega)] at g20 g21 g22 g23 g24 g25
          rw [Nat.add_zero] at g20
          have hLi : ∀ m ∈ (n : Int) :: l, I64 m := fun m hm => by
            rcases List.mem_cons.1 hm with rfl | hm
            · unfold I64; omega
            · exact hl64 m hm
          obtain ⟨L, hL⟩ : ∃ L, L = (n : Int) :: l := ⟨_, rfl⟩
          have hLl : L.length = 4 * n + 7 := by rw [hL]; simp [hli]
          have hL0 : L.getD 0 0 = n := by rw [hL]; rfl
          rw [← hL] at hLi g20 g21 g22 g23 g24 g25 hs ho d3
          have hfit : FitC (cfOf n L) := ⟨getD_i64 hLi _, getD_i64 hLi _⟩
          have hflat : flat (cfOf n L) = L := flat_cfOf hLl hL0
          obtain ⟨cf, hcf⟩ : ∃ cf, cf = cfOf n L := ⟨_, rfl⟩
          rw [← hcf] at hfit hflat
          have hins : insOf n L = cf.ins := by rw [hcf]; rfl
          have f1 : L.getD (4 * n + (0 + 1)) 0 = cf.skin := by rw [hcf]; rfl
          have f2 : L.getD (4 * n + (1 + 1)) 0 = cf.times := by rw [hcf]; rfl
          have f3 : L.getD (4 * n + (2 + 1)) 0 = cf.port := by rw [hcf]; rfl
          have f4 : L.getD (4 * n + (3 + 1)) 0 = cf.bid := by rw [hcf]; rfl
          have f5 : L.getD (4 * n + (4 + 1)) 0 = cf.lot := by rw [hcf]; rfl
          have f6 : L.getD (4 * n + (5 + 1)) 0 = cf.hmin := by rw [hcf]; rfl
          rw [f1] at g20
          rw [f2] at g21
          rw [f3] at g22
          rw [f4] at g23
          rw [f5] at g24
          rw [f6] at g25
          rw [hins] at d3
          have hnl : cf.ins.length = n := by rw [← hins]; simp
          have r6 := c6.get d2 (by simp)
          have rr6 := rowRw_rw r6
          have ro6 := rowOf_rw r6
          have hset : ∀ l, rowRw (H6.set q (.cells l .rw)) 0 q = some l := fun l => rowRw_self (lt_of_get r6)
          have hset2 : ∀ X, rowOf (H6.set q X) bx = some rx := fun X => set_row g0 (by omega) X
          have hset3 : ∀ l, rowOf (H6.set q (.cells l .rw)) q = some l := fun l => rowOf_self (lt_of_get r6)
          have o5 : AV.one vi = true := by obtain ⟨_, _, _, _, rfl, _⟩ := d3.sl.form; rfl
          simp [d21_18, g0, g20, g21, g22, g23, g24, g25, rr6, hset, hset2, hset3, o5]
          obtain ⟨H7, e7⟩ : ∃ H7, H7 = H6.set q (.cells (cf.cs vi) .rw) := ⟨_, rfl⟩
          have c7 : Chg [q] H5 H7 := by rw [e7]; exact (c6.nil.trans (.set _ _ _) (by simp))
          have r7 : H7[q]? = some (.cells (cf.cs vi) .rw) := by rw [e7]; exact List.getElem?_set_self (lt_of_get r6)
          simp only [Cf.cs] at e7
          rw [← e7]
          have m7 := d3.chg c7 (fun b hb => by have := d4 b hb; simp; omega)
          have hlen0 : H.length < q := by have := nx.2.1.1; omega
          have cT : Chg [] H2 H7 := ((cG.trans d1 (by simp; omega)).trans c7 (by simp; omega))
          have r2 := nx.2.1.get r1 (by simp)
          have cH : Chg [] H H7 := (c1.tr nx.2.1).tr cT
          have r27 := cT.get r2 (by simp)
          have huniq : ∀ c, rightC c = true → FitC c → putB c = bs → c = cf ∧ at_ = bs.length := fun c hr hf e => by
            obtain ⟨M, h1, h2⟩ := hs _ (flat_i64 hr hf) e
            have hz := hz2 c hr hf e
            have h3 := congrArg List.length h1
            simp at h3
            obtain rfl : M = [] := List.eq_nil_of_length_eq_zero (by omega)
            have h4 := congrArg List.length h2
            simp [encs] at h4
            refine ⟨?_, by omega⟩
            rw [hcf, ← cfOf_flat c, h1, List.append_nil]
            congr 1
            omega
          have ro7 := rowOf_rw r7
          have hrr : ∀ l, rowOf (H7.set H.length (.cells l .rw)) H.length = some l := fun l => rowOf_self (lt_of_get r27)
          have rr27 := rowRw_rw r27
          have ro27 := rowOf_rw r27
          have cS : ∀ X, Chg [] H (H7.set H.length X) := fun X => cH.set_new (Nat.le_refl _) _
          by_cases hat2 : at_ = bs.length
          case neg =>
            have hat3 : ¬ (at_ : Int) = (bs.length : Int) := by omega
            have rej := rej0 fun c hr hf e => hat2 (huniq c hr hf e).2
            simp [hat2, hat3, rr27, hrr, cS, rej]
          case pos =>
            simp only [Cf.cs] at ro7
            simp [hat2, ro7]
            refine Hx.mapp (rright_ok (c := cf) m7.sl (by omega) (by omega)) ?_
            rintro ⟨r, H8⟩ ⟨e, c8⟩
            simp only at e c8
            subst e
            have r28 := c8.get r27 (by simp)
            have rr28 := rowRw_rw r28
            have hrr8 : ∀ l, rowOf (H8.set H.length (.cells l .rw)) H.length = some l := fun l => rowOf_self (lt_of_get r28)
            have cS8 : ∀ X, Chg [] H (H8.set H.length X) := fun X => (cH.tr c8).set_new (Nat.le_refl _) _
            have ro8 := rowOf_rw (c8.get r7 (by simp))
            simp only [Cf.cs] at ro8
            cases hr : rightC cf with
            | false =>
              have rej := rej0 fun c hrc hf e => by
                rw [(huniq c hrc hf e).1, hr] at hrc
                cases hrc
              simp [rr28, hrr8, cS8, rej]
            | true =>
              simp [rr28, hrr8, cS8, ro8, o5]
              refine .inl ⟨vi, cf, rfl, ?_, hr, hfit, ?_⟩
              · exact ((m7.keep c8).chg (.set _ H.length _) (fun b hb => by have := d4 b hb; simp; omega)).sl
              · unfold putB
                rw [hflat, ho, hat2, List.take_length]
end
end Go.Proofs.Ytndgfpknegoleaa.T
