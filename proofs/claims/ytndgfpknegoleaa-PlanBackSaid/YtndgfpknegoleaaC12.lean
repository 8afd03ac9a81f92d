import Derived.Test.YtndgfpknegoleaaC11
import Derived.Test.YtndgfpknegoleaaAb27
/-! Read. -/
set_option linter.unusedVariables false
set_option linter.unusedSimpArgs false
set_option maxHeartbeats 4000000
set_option maxRecDepth 100000
namespace Go.Proofs.Ytndgfpknegoleaa.T
open Go Go.Ab
theorem SN.all {H : AH} {v : AV} {l : List Int} (h : SN H v l) (h0 : l ≠ []) : ∃ b o c r, v = .slice (some (b, o)) l.length c 1 ∧ rowOf H b = some r ∧ o + l.length ≤ r.length ∧ ∀ i, i < l.length → r[o + i]? = some (.int .i64 (l.getD i 0)) := by
  obtain ⟨b, o, c, r, e, h1, h2, h3⟩ := h.all1 (by simpa [i64s] using h0)
  refine ⟨b, o, c, r, by simpa using e, h1, by simpa using h2, fun i hi => ?_⟩
  rw [h3 i (by simpa using hi)]
  simp [i64s, List.getElem?_eq_getElem hi]
theorem getD_i64 {l : List Int} (h : ∀ n ∈ l, I64 n) (i : Nat) : I64 (l.getD i 0) := by
  rw [List.getD_eq_getElem?_getD]
  cases e : l[i]? with
  | none => simp [I64]
  | some x => exact h x (List.mem_of_getElem? e)
section
variable {k : Nat} {H : AH} {b : AV} {bs : List Int}
theorem bequal_ok {v w : AV} {xs ys : List Int} (hv : B8 H v xs) (hw : B8 H w ys) (hx : Byt xs) (hy : Byt ys) : Hx (callA ap (k + 1) (.func 32 [] []) [v, w] 0 H) fun r => r = (.bool (decide (xs = ys)), H) := by
  rw [hx_call fn32 rfl]
  have t1 := toStr_b8 hv
  have t2 := toStr_b8 hw
  simp [f32, b32, t1, t2, strN_beq hx hy]
theorem read_ok (hb : B8 H b bs) (hB : Byt bs) (hl : bs.length ≤ 100000) (hk : bs.length + 400 < k) :
    Hx (callA ap k (.func 20 [] []) [b] 0 H) fun r => Chg [] H r.2 ∧ ReadsC bs r.2 r.1 := by
  obtain ⟨k, rfl⟩ : ∃ k', k = k' + 30 := ⟨k - 30, by omega⟩
  rw [hx_call fn20 rfl]
  obtain ⟨a, c, s, rfl⟩ := hb.len8
  simp [f20, b20]
  obtain ⟨H1, e1⟩ : ∃ H1, H1 = H ++ [.cells (Cf.cs .zero (.slice none 0 (some 0) 0)) .rw] := ⟨_, rfl⟩
  have c1 : Chg [] H H1 := by rw [e1]; exact .app _ _
  have r1 : H1[H.length]? = some (.cells (Cf.cs .zero (.slice none 0 (some 0) 0)) .rw) := by rw [e1]; simp
  simp only [Cf.cs, Cf.zero] at e1 r1
  rw [← e1]
  refine hx_down (fun j s' => ∃ H' x l at_, s' = ⟨sp 124 [(0, .slice a bs.length c s), (2, .ptr (some (H.length, 0))), (3, .int .i64 0), (4, x), (5, .int .i64 (at_ : Nat))], H', []⟩ ∧ NewN H1 H' x l ∧ at_ + j = bs.length ∧ l.length ≤ at_ ∧ (∀ n ∈ l, I64 n) ∧ Says bs l at_) (j := bs.length) ?_ (by omega) ⟨H1, .slice none 0 (some 0) 0, [], 0, by simp [maskS], ⟨.nil _ _, .refl, by simp⟩, by omega, by simp, by simp, says_0 bs⟩
  rintro j _ ⟨H2, x, l, at_, rfl, nx, hj, hla, hli, hs⟩
  have c2 := c1.tr nx.2.1
  have r2 := nx.2.1.get r1 (by simp)
  have rw2 := rowRw_rw r2
  have ro2 := rowOf_rw r2
  obtain ⟨xa, xc, xs, rfl⟩ := SN.form nx.1.sl
  have hlt0 : H.length < H1.length := lt_of_get r1
  by_cases hj0 : j = 0
  case neg =>
    have hlt : at_ < bs.length := by omega
    have hlt' : (at_ : Int) < (bs.length : Int) := by omega
    obtain ⟨v2, a2, s2, _, _⟩ := (hb.keep c2).cut8 (low := some (.int .i64 at_)) (high := none) (lo := at_) (hi := bs.length) (by omega) (Nat.le_refl _) (by simp [lowIs]) (by simp [highIs])
    rw [List.take_length] at s2
    simp [hlt, hlt', a2]
    refine Hx.mapp (take_ok s2 (hB.drop _) (by simp; omega)) ?_
    rintro ⟨r, H3⟩ e
    simp only [Prod.mk.injEq] at e
    obtain ⟨rfl, e⟩ := e
    replace e := e.symm
    subst e
    by_cases hg : (got false (bs.drop at_)).2 = 0
    · have hno := says_none false hs hlt (got_none hg)
      simp [hg, rw2, ro2]
      have hrl := rowOf_self (H := H2) (b := H.length) (l := [AV.slice none 0 (some 0) 0, AV.int IntKind.i64 0, AV.int IntKind.i64 0, AV.int IntKind.i64 0, AV.int IntKind.i64 0, AV.int IntKind.i64 0, AV.int IntKind.i64 0]) (lt_of_get r2)
      simp [hrl]
      refine ⟨?_, .inr ⟨rfl, fun c hr hf e => hno _ (flat_i64 hr hf) e⟩⟩
      exact c2.set_new (Nat.le_refl _) _
    · have hgs := got_some hg
      generalize got false (bs.drop at_) = nk at *
      obtain ⟨n, kk⟩ := nk
      have hfar := rdn_far false _ 0 0 n kk hgs (by omega) (by decide)
      have hs' := says_some false hs hgs
      simp at hfar hg
      have w1 : IntKind.i64.wrap ((at_ : Int) + (kk : Int)) = (at_ : Int) + (kk : Int) := wrap_i64 (by omega) (by omega)
      simp [hg]
      have sn : SN (H2 ++ [.cells [.int .i64 n] .rw]) (.slice (some (H2.length, 0)) 1 (some 1) 1) [n] := sn_new (cs := [n]) rfl rfl (by simp)
      refine Hx.mapp (nx.push sn (.app _ _) (by simp; unfold room; omega)) ?_
      rintro ⟨y, H3⟩ hy
      simp only at hy
      simp [w1]
      refine ⟨j - kk, by omega, H3, y, l ++ [n], at_ + kk, by simp [maskS], hy, by omega, by simp; omega, ?_, hs'⟩
      intro m hm
      rcases List.mem_append.1 hm with hm | hm
      · exact hli m hm
      · obtain rfl : m = n := by simpa using hm
        exact hfar.2.2.2
  case pos =>
    obtain rfl : at_ = bs.length := by omega
    replace hs := says_end hs
    have hrl := rowOf_self (H := H2) (b := H.length) (l := [AV.slice none 0 (some 0) 0, AV.int IntKind.i64 0, AV.int IntKind.i64 0, AV.int IntKind.i64 0, AV.int IntKind.i64 0, AV.int IntKind.i64 0, AV.int IntKind.i64 0]) (lt_of_get r2)
    have cset : ∀ X, Chg [] H (H2.set H.length X) := fun X => c2.set_new (Nat.le_refl _) _
    have rej0 : (∀ c, rightC c = true → FitC c → putB c ≠ bs) → ∀ X, ReadsC bs X (.tuple [.agg [AV.slice none 0 (some 0) 0, AV.int IntKind.i64 0, AV.int IntKind.i64 0, AV.int IntKind.i64 0, AV.int IntKind.i64 0, AV.int IntKind.i64 0, AV.int IntKind.i64 0], .int .i64 13]) :=
      fun h X => .inr ⟨rfl, h⟩
    have rej : (∀ c, rightC c = true → FitC c → flat c ≠ l) → ∀ X, ReadsC bs X (.tuple [.agg [AV.slice none 0 (some 0) 0, AV.int IntKind.i64 0, AV.int IntKind.i64 0, AV.int IntKind.i64 0, AV.int IntKind.i64 0, AV.int IntKind.i64 0, AV.int IntKind.i64 0], .int .i64 13]) :=
      fun h X => .inr ⟨rfl, fun c hr hf e => h c hr hf (hs _ (flat_i64 hr hf) e)⟩
    by_cases hl0 : l = []
    · subst hl0
      have rej := rej fun c _ _ e => by have := congrArg List.length e; simp at this
      simp [rw2, ro2, hrl, cset, rej]
    have hlp : 0 < l.length := List.length_pos_iff.2 hl0
    obtain ⟨xb, xo, xc', xr, ex, g0, g1, g2⟩ := SN.all nx.1.sl hl0
    injection ex with z1 z2 z3 z4
    subst z1 z3 z4
    have q0 := g2 0 hlp
    rw [Nat.add_zero] at q0
    have hl0' : ¬ (l.length : Int) = 0 := by omega
    cases h6 : inB (l.getD 0 0) 1 6 with
    | false =>
      have rej := rej fun c hr hf e => by
        have h1 := flat_get0 c
        have h2 := right_len hr
        rw [e] at h1
        rw [h1] at h6
        simp [inB] at h6
        omega
      obtain ⟨z, hz⟩ : ∃ z, l.getD 0 0 = z := ⟨_, rfl⟩
      rw [hz] at q0 h6
      simp [rw2, ro2, hrl, cset, rej, hl0, hl0', g0, q0, hlp, in_ok, h6]
    | true =>
      obtain ⟨n, hn⟩ : ∃ n : Nat, l.getD 0 0 = n := ⟨(l.getD 0 0).toNat, by simp [inB] at h6; rw [List.getD_eq_getElem?_getD]; omega⟩
      rw [hn] at h6 q0
      have hn6 : 1 ≤ n ∧ n ≤ 6 := by simp [inB] at h6; omega
      have w1 : IntKind.i64.wrap (4 * (n : Int)) = 4 * (n : Int) := wrap_i64 (by omega) (by omega)
      have w2 : IntKind.i64.wrap (4 * (n : Int) + 7) = 4 * (n : Int) + 7 := wrap_i64 (by omega) (by omega)
      by_cases hln : l.length = 4 * n + 7
      case neg =>
        have rej := rej fun c hr hf e => by
          have h1 := flat_get0 c
          have h2 := flat_len (c := c)
          rw [e] at h1 h2
          rw [h1] at hn
          omega
        have hln' : ¬ (l.length : Int) = 4 * (n : Int) + 7 := by omega
        simp [rw2, ro2, hrl, cset, rej, hl0, hl0', g0, q0, hlp, in_ok, h6, w1, w2, hln']
      case pos =>
        have hln' : (l.length : Int) = 4 * (n : Int) + 7 := by omega
        have w3 : IntKind.i64.wrap ((l.length : Int) - 6) = ((4 * n + 1 : Nat) : Int) := by rw [wrap_i64 (by omega) (by omega)]; omega
        obtain ⟨G, eG⟩ : ∃ G, G = H2 ++ [.cells [AV.slice none 0 (some 0) 0, AV.int IntKind.i64 0, AV.int IntKind.i64 0, AV.int IntKind.i64 0, AV.int IntKind.i64 0, AV.int IntKind.i64 0, AV.int IntKind.i64 0] .rw] := ⟨_, rfl⟩
        have cG : Chg [] H2 G := by rw [eG]; exact .app _ _
        have rG : G[H2.length]? = some (.cells [AV.slice none 0 (some 0) 0, AV.int IntKind.i64 0, AV.int IntKind.i64 0, AV.int IntKind.i64 0, AV.int IntKind.i64 0, AV.int IntKind.i64 0, AV.int IntKind.i64 0] .rw) := by rw [eG]; simp
        have lG : G.length = H2.length + 1 := by rw [eG]; simp
        have snG := nx.1.sl.keep cG
        obtain ⟨v5, a5, s5, k5, -⟩ := SL.cut (low := some (.int .i64 1)) (high := some (.int .i64 (4 * n + 1))) snG Nat.one_pos (lo := 1) (hi := 4 * n + 1) (by omega) (by simp; omega) (by simp [lowIs]) (by simp [highIs])
        obtain ⟨xs, hxs⟩ : ∃ xs, xs = (l.take (4 * n + 1)).drop 1 := ⟨_, rfl⟩
        replace s5 : SN G v5 xs := by
          rw [hxs]
          show SL G 1 v5 (i64s _)
          rw [i64s, List.map_drop, List.map_take]
          simpa [i64s] using s5
        have hxl : xs.length = 4 * n := by rw [hxs]; simp; omega
        have hxg : ∀ i, i < 4 * n → xs.getD i 0 = l.getD (i + 1) 0 := fun i hi => by
          rw [hxs, List.getD_eq_getElem?_getD, List.getD_eq_getElem?_getD, List.getElem?_drop, List.getElem?_take_of_lt (by omega), Nat.add_comm]
        have hv5 : ∃ a n c s, v5 = .slice a n c s := by obtain ⟨a, n, c, s, e, _⟩ := SL.form s5; exact ⟨a, n, c, s, e⟩
        have hln2 : ((l.length : Int) = 4 * (n : Int) + 7) = True := eq_true hln'
        simp [hl0, hl0', g0, q0, hlp, in_ok, h6, w1, w2, w3, hln2]
        rw [← eG]
        simp [a5]
        refine Hx.mapp (chunk_ok hv5) ?_
        rintro ⟨r, H4⟩ e
        simp only [Prod.mk.injEq] at e
        obtain ⟨rfl, e4⟩ := e
        simp
        have c4 : Chg [] G H4 := by rw [e4]; exact .app _ _
        have l4 : H4.length = G.length + 2 := by rw [e4]; simp
        have b0 : H4[G.length]? = some (.cells [v5] .rw) := by rw [e4]; simp
        have b1 : H4[G.length + 1]? = some (.cells [.int .i64 4] .rw) := by rw [e4]; simp
        clear e4
        have hkk : k + 29 = (k + 27) + 2 := rfl
        rw [hkk]
        have hxb : xb < H2.length := nx.1.lt xb (by simp)
        obtain ⟨q, hq⟩ : ∃ q, H2.length = q := ⟨_, rfl⟩
        rw [hq] at rG hxb lG
        simp only [hq]
        have r4 := c4.get rG (by simp)
        have nv5 : ∀ i ∈ blk v5, i ∉ [q] := fun i hi => by have := k5 i hi; simp at this ⊢; omega
        have wj : ∀ j : Nat, j < n → ∀ m, m < 4 → ((xs.drop (4 * j)).take 4).getD m 0 = l.getD (m + 1 + 4 * j) 0 := fun j hj m hm => by
          rw [List.getD_eq_getElem?_getD, List.getElem?_take_of_lt hm, List.getElem?_drop, ← List.getD_eq_getElem?_getD, hxg _ (by omega)]
          congr 1; omega
        refine hx_range (chunkA xs) (chunkI G.length xs) (n := n)
          (fun j H' => Chg [q] H4 H' ∧ ∃ vi, H'[q]? = some (.cells [vi, AV.int IntKind.i64 0, AV.int IntKind.i64 0, AV.int IntKind.i64 0, AV.int IntKind.i64 0, AV.int IntKind.i64 0, AV.int IntKind.i64 0] .rw) ∧ Mine H' 4 vi (insC (insOf j l)) ∧ ∀ b ∈ blk vi, H4.length + 2 ≤ b)
          (fun _ _ => False) rfl (chunk_goes hxl (by omega) (by omega)) (fun j Ha Hb ⟨a, vi, r, m, nb⟩ g => ⟨chg_ls a (by simp) g, vi, get_ls r g, mine_ls m g, nb⟩) (fun _ _ _ h => h.elim)
          (fun j Ha ⟨a, _⟩ => ⟨⟨v5, a.get b0 (by simp; omega), (s5.keep c4).chg a nv5⟩, a.get b1 (by simp; omega)⟩) (fun j Ha Hb a ⟨x, e, hx⟩ g => ⟨x, e, g.sl hx⟩) (fun j Ha a ⟨x, e, hx⟩ => by rw [e]; rfl)
          ⟨.refl, _, r4, .nil _ _, by simp⟩ ?_ ?_ (fun _ _ _ h => h.elim)
        · rintro j hj Ha a ⟨i1, vi', i2, i3, i4⟩ ⟨x, rfl, hx⟩ H5 ⟨d1, vi, d2, d3, d4⟩ ⟨x', e, hx'⟩ hl1 hl0' hd
          cases e
          have hlt5 := loop_lt hl1
          simp only at hlt5 hl1 hd
          clear hl0' hx i1 i2 i3 i4
          simp [as20_0, setL]
          intro ms
          simp [bd20_0]
          refine hx_drawn dc20_13 fun H6 c6 hl6 hd6 => ?_
          have rw6 := rowOf_rw (c6.get d2 (by simp))
          have rr6 := rowRw_rw (c6.get d2 (by simp))
          obtain ⟨bx, ox, cx, rx, ex, g0, g1, g2⟩ := SN.all (hx'.keep c6) (by intro h; have := congrArg List.length h; simp at this; omega)
          have hlx : ((xs.drop (4 * j)).take 4).length = 4 := by simp; omega
          rw [hlx] at g1 g2 ex
          subst ex
          have hbx5 : bx < H5.length := hx'.lt bx (by simp)
          have g20 := g2 0 (by omega)
          have g21 := g2 1 (by omega)
          have g22 := g2 2 (by omega)
          have g23 := g2 3 (by omega)
          rw [wj j hj _ (by omega)] at g20 g21 g22 g23
          rw [Nat.add_zero] at g20
          generalize hy0 : l.getD (0 + 1 + 4 * j) 0 = y0 at *
          generalize hy1 : l.getD (1 + 1 + 4 * j) 0 = y1 at *
          generalize hy2 : l.getD (2 + 1 + 4 * j) 0 = y2 at *
          generalize hy3 : l.getD (3 + 1 + 4 * j) 0 = y3 at *
          have hdd := hd6 15 (by decide)
          have hdd' : isDeadB H6[H5.length + 15]? = true := by rw [hdd]; rfl
          obtain ⟨H7, e7⟩ : ∃ H7, H7 = H6.set (H5.length + 15) (.cells [.int .i64 y0, .int .i64 y1, .int .i64 y2, .int .i64 y3] .rw) := ⟨_, rfl⟩
          have c7 : Chg [] H5 H7 := by rw [e7]; exact c6.set_new (by omega) _
          have q7 := rowOf_rw (c7.get d2 (by simp))
          have g7 : rowOf H7 bx = some rx := by rw [e7]; exact set_row g0 (by omega) _
          simp [d20_13, rw6, g0, g20, g21, g22, g23, hdd']
          rw [← e7]
          have sl7 : SL H7 4 (.slice (some (H5.length + 15, 0)) 1 (some 1) 4) (I4.cs ⟨y0, y1, y2, y3⟩) := by
            rw [e7]
            exact SL.mk (by omega) (rowOf_self (lt_of_get hdd)) (by simp [I4.cs]) (by simp)
          have one : AV.one vi = true := by obtain ⟨_, _, _, _, rfl, _⟩ := d3.sl.form; rfl
          refine Hx.mapp ((d3.keep c7).append sl7 (by omega) (by omega) (by simp [I4.cs]) (by simp [I4.cs]; unfold room; omega)) ?_
          rintro ⟨v8, H8⟩ ⟨m8, c8, k8⟩
          simp only at m8 c8 k8
          rw [← insC_snoc] at m8
          have nq : q ∉ blk vi := fun h => by have := d4 q h; omega
          have q8 := rowRw_rw (c8.get (c7.get d2 (by simp)) nq)
          have o8 : AV.one v8 = true ∧ ∃ a n c s, v8 = .slice a n c s := by obtain ⟨a, n, c, s, rfl, _⟩ := m8.sl.form; exact ⟨rfl, _, _, _, _, rfl⟩
          obtain ⟨o8, a8, n8, p8, s8, rfl⟩ := o8
          simp [q7, g7, g20, g21, g22, g23, q8, rw6, g0]
          have c78 : Chg (blk vi) H5 H8 := c7.nil.trans c8 (fun i h => .inl h)
          have n8 : ∀ b ∈ blk (AV.slice a8 n8 p8 s8), H4.length + 2 ≤ b := fun b hb => by
            rcases k8 b hb with hb | hb
            · exact d4 b hb
            · have := c7.1; omega
          have c9 : ∀ X, Chg (q :: blk vi) H5 (H8.set q X) := fun X => (c78.mono (fun i hi => .inl (by simp [hi])) : Chg (q :: blk vi) H5 H8).trans (.set _ _ _) (by simp)
          have hins : insOf (j + 1) l = insOf j l ++ [⟨y0, y1, y2, y3⟩] := by
            rw [insOf_succ, ← hy0, ← hy1, ← hy2, ← hy3]
          refine ⟨(c9 _).2 _ (by omega) ?_, (c9 _).2 _ (by omega) ?_, d1.trans (c9 _) ?_, _, List.getElem?_set_self ?_, ?_⟩
          · intro h; rcases List.mem_cons.1 h with h | h
            · omega
            · have := d4 _ h; omega
          · intro h; rcases List.mem_cons.1 h with h | h
            · omega
            · have := d4 _ h; omega
          · intro i hi; rcases List.mem_cons.1 hi with h | h
            · exact .inl (by simp [h])
            · have := d4 _ h; exact .inr (by omega)
          · have := c8.1; have := c7.1; omega
          · rw [hins]
            refine ⟨m8.chg (.set _ _ _) (fun b hb => by have := n8 b hb; simp; omega), n8⟩
        · rintro H5 ⟨d1, vi, d2, d3, d4⟩ hd
          simp only at hd
          have sn5 := (snG.keep c4).chg d1 (fun i hi => by simp at hi ⊢; omega)
          obtain ⟨v6, a6, s6, _, _⟩ := SL.cut (low := some (.int .i64 (4 * n + 1))) (high := none) sn5 Nat.one_pos (lo := 4 * n + 1) (hi := l.length) (by omega) (by simp) (by simp [lowIs]) (by simp [highIs])
          replace s6 : SN H5 v6 (l.drop (4 * n + 1)) := by
            show SL H5 1 v6 (i64s _)
            rw [i64s, List.map_drop]
            rw [Nat.mul_one, Nat.mul_one, List.take_of_length_le (by simp)] at s6
            exact s6
          simp [w3, a6]
          refine hx_drawn dc20_15 fun H6 c6 hl6 hd6 => ?_
          obtain ⟨bx, ox, cx, rx, ex, g0, g1, g2⟩ := SN.all (s6.keep c6) (by intro h; have := congrArg List.length h; simp at this; omega)
          have hlx : (l.drop (4 * n + 1)).length = 6 := by simp; omega
          rw [hlx] at g1 g2 ex
          subst ex
          have hbx : bx = xb := by
            have := (SL.cut (low := some (.int .i64 (4 * n + 1))) (high := none) sn5 Nat.one_pos (lo := 4 * n + 1) (hi := l.length) (by omega) (by simp) (by simp [lowIs]) (by simp [highIs]))
            obtain ⟨v6', a6', _, k6', _⟩ := this
            rw [a6] at a6'
            cases a6'
            simpa using k6' bx (by simp)
          have wj6 : ∀ m, m < 6 → (l.drop (4 * n + 1)).getD m 0 = l.getD (4 * n + (m + 1)) 0 := fun m hm => by
            rw [List.getD_eq_getElem?_getD, List.getElem?_drop, ← List.getD_eq_getElem?_getD]
            congr 1; omega
          have g20 := g2 0 (by omega)
          have g21 := g2 1 (by omega)
          have g22 := g2 2 (by omega)
          have g23 := g2 3 (by omega)
          have g24 := g2 4 (by omega)
          have g25 := g2 5 (by omega)
          rw [wj6 _ (by omega)] at g20 g21 g22 g23 g24 g25
          rw [Nat.add_zero] at g20
          have hfit : FitC (cfOf n l) := ⟨getD_i64 hli _, getD_i64 hli _⟩
          obtain ⟨cf, hcf⟩ : ∃ cf, cf = cfOf n l := ⟨_, rfl⟩
          rw [← hcf] at hfit
          have hins : insOf n l = cf.ins := by rw [hcf]; rfl
          have f1 : l.getD (4 * n + (0 + 1)) 0 = cf.skin := by rw [hcf]; rfl
          have f2 : l.getD (4 * n + (1 + 1)) 0 = cf.times := by rw [hcf]; rfl
          have f3 : l.getD (4 * n + (2 + 1)) 0 = cf.port := by rw [hcf]; rfl
          have f4 : l.getD (4 * n + (3 + 1)) 0 = cf.bid := by rw [hcf]; rfl
          have f5 : l.getD (4 * n + (4 + 1)) 0 = cf.lot := by rw [hcf]; rfl
          have f6 : l.getD (4 * n + (5 + 1)) 0 = cf.hmin := by rw [hcf]; rfl
          rw [f1] at g20
          rw [f2] at g21
          rw [f3] at g22
          rw [f4] at g23
          rw [f5] at g24
          rw [f6] at g25
          rw [hins] at d3
          have hnl : cf.ins.length = n := by rw [← hins]; simp
          have r6 := c6.get d2 (by simp)
          have rr6 := rowRw_rw r6
          have ro6 := rowOf_rw r6
          have hset : ∀ l, rowRw (H6.set q (.cells l .rw)) 0 q = some l := fun l => rowRw_self (lt_of_get r6)
          have hset2 : ∀ X, rowOf (H6.set q X) bx = some rx := fun X => set_row g0 (by omega) X
          have hset3 : ∀ l, rowOf (H6.set q (.cells l .rw)) q = some l := fun l => rowOf_self (lt_of_get r6)
          have o5 : AV.one vi = true := by obtain ⟨_, _, _, _, rfl, _⟩ := d3.sl.form; rfl
          simp [d20_15, g0, g20, g21, g22, g23, g24, g25, rr6, hset, hset2, hset3, o5]
          obtain ⟨H7, e7⟩ : ∃ H7, H7 = H6.set q (.cells (cf.cs vi) .rw) := ⟨_, rfl⟩
          have c7 : Chg [q] H5 H7 := by rw [e7]; exact (c6.nil.trans (.set _ _ _) (by simp))
          have r7 : H7[q]? = some (.cells (cf.cs vi) .rw) := by rw [e7]; exact List.getElem?_set_self (lt_of_get r6)
          simp only [Cf.cs] at e7
          rw [← e7]
          have m7 := d3.chg c7 (fun b hb => by have := d4 b hb; simp; omega)
          refine Hx.mapp (put_ok (c := cf) m7.sl (by omega) hfit (by omega)) ?_
          rintro ⟨r, H8⟩ ⟨y, e, ny⟩
          simp only at e ny
          subst e
          have ro8 := rowOf_rw (ny.2.1.get r7 (by simp))
          simp only [Cf.cs] at ro8
          have hlen0 : H.length < q := by have := nx.2.1.1; omega
          have cT : Chg [] H2 H8 := (((cG.tr c4).trans d1 (by simp; omega)).trans c7 (by simp; omega)).tr ny.2.1
          have cH : Chg [] H H8 := c2.tr cT
          have hd8 := ny.2.1.get (c7.get hd (by simp; omega)) (by simp)
          have r28 := cT.get r2 (by simp)
          have rr28 := rowRw_rw r28
          have ro28 := rowOf_rw r28
          have hd9 : ∀ X, (H8.set H.length X)[H4.length]? = some (.deferred false) := fun X => (Chg.set H8 H.length X).get hd8 (by simp; omega)
          have ho9 : ∀ l Y, rowOf ((H8.set H.length (.cells l .rw)).set H4.length Y) H.length = some l := fun l Y => set_row (rowOf_self (lt_of_get r28)) (by omega) Y
          have cF : ∀ X Y, Chg [] H ((H8.set H.length X).set H4.length Y) := fun X Y => (cH.set_new (Nat.le_refl _) X).set_new (by omega) Y
          have hfl : rightC cf = true → putB cf = bs → flat cf = l := fun hr e => hs _ (flat_i64 hr hfit) e
          have huniq : ∀ c, rightC c = true → FitC c → flat c = l → c = cf := fun c hr hf e => by
            rw [hcf, ← cfOf_flat c, e]
            congr 1
            have := flat_len (c := c)
            rw [e] at this
            omega
          cases hr : rightC cf with
          | false =>
            have rej := rej fun c hrc hf e => by
              have := huniq c hrc hf e
              rw [this, hr] at hrc
              cases hrc
            simp [rr28, hd9, ho9, cF, rej]
          | true =>
            simp only [hr, if_true] at ny
            simp
            refine Hx.mapp (bequal_ok ny.1.sl (hb.keep cH) (encs_byt (flat_i64 hr hfit)) hB) ?_
            rintro ⟨r, H9⟩ e
            simp only [Prod.mk.injEq] at e
            obtain ⟨rfl, e⟩ := e
            replace e := e.symm
            subst e
            by_cases hpb : putB cf = bs
            · simp [hpb, ro8, rr28, o5, hd9, ho9, cF]
              refine .inl ⟨vi, cf, rfl, ?_, hr, hfit, hpb⟩
              have m8 := m7.keep ny.2.1
              exact ((m8.chg (.set _ H.length _) (fun b hb => by have := d4 b hb; simp; omega)).chg (.set _ H4.length _) (fun b hb => by have := d4 b hb; simp; omega)).sl
            · have rej := rej0 fun c hrc hf e => by
                have := huniq c hrc hf (hs _ (flat_i64 hrc hf) e)
                rw [this] at e
                exact hpb e
              simp [hpb, rr28, hd9, ho9, cF, rej]
end
end Go.Proofs.Ytndgfpknegoleaa.T
