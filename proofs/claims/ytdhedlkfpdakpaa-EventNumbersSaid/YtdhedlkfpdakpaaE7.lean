import Derived.Test.YtdhedlkfpdakpaaE5
/-! Events: what bytes say. -/
set_option linter.unusedVariables false
set_option linter.unusedSimpArgs false
set_option maxHeartbeats 4000000
set_option maxRecDepth 100000
namespace Go.Proofs.Ytdhedlkfpdakpaa.T
open Go Go.Ab
theorem got_some {bs : List Int} (h : (got false bs).2 ≠ 0) : rdn false bs 0 0 = some (got false bs) := by
  unfold got at h ⊢
  cases e : rdn false bs 0 0 with
  | none => rw [e] at h; simp at h
  | some r => simp
theorem got_none {bs : List Int} (h : (got false bs).2 = 0) : rdn false bs 0 0 = none := by
  cases e : rdn false bs 0 0 with
  | none => rfl
  | some r =>
    obtain ⟨v, k⟩ := r
    have := (rdn_far false bs 0 0 v k e (by omega) (by decide)).1
    unfold got at h
    rw [e] at h
    simp at h
    omega
theorem evOf_0 (k : Int) (ls : List Int) : evOf k (ls.take 0) [] = bare k := by simp [evOf]
theorem i64_app {l : List Int} {v : Int} (h : ∀ n ∈ l, I64 n) (hv : I64 v) : ∀ n ∈ l ++ [v], I64 n := fun n hn => by
  rcases List.mem_append.1 hn with hn | hn
  · exact h n hn
  · obtain rfl : n = v := by simpa using hn
    exact hv
section
variable {k : Nat} {H : AH} {b : AV} {bs : List Int}
theorem bequal_ok {v w : AV} {xs ys : List Int} (hv : B8 H v xs) (hw : B8 H w ys) (hx : Byt xs) (hy : Byt ys) : Hx (callA ap (k + 1) (.func 38 [] []) [v, w] 0 H) fun r => r = (.bool (decide (xs = ys)), H) := by
  rw [hx_go fn38 rfl, b38]
  have t1 := toStr_b8 hv
  have t2 := toStr_b8 hw
  simp [f38, b38, t1, t2, strN_beq hx hy]
theorem read_ok (hb : B8 H b bs) (hB : Byt bs) (hl : bs.length ≤ 100000) :
    Hx (callA ap (k + 100) (.func 20 [] []) [b] 0 H) fun r => Chg [] H r.2 ∧ ReadsE bs r.1 := by
  rw [hx_go fn20 rfl, b20]
  obtain ⟨a, c, s, rfl⟩ := hb.len8
  have rej0 : (∀ e, rt e = true → putE e ≠ bs) → ReadsE bs (.tuple [.agg [AV.int IntKind.i64 0, AV.int IntKind.i64 0, AV.int IntKind.i64 0, AV.int IntKind.i64 0, AV.int IntKind.i64 0, AV.int IntKind.i64 0, AV.int IntKind.i64 0, AV.int IntKind.i64 0], .int .i64 13]) := fun h => .inr ⟨rfl, h⟩
  by_cases h0 : bs = []
  · have rej := rej0 fun e _ h => by have := (putE_len e).1; rw [h, h0] at this; simp at this
    subst h0
    simp [f20, b20, rej]
    exact .app _ _
  have hp : 0 < bs.length := List.length_pos_iff.2 h0
  have hp' : ¬ (bs.length : Int) = 0 := by omega
  have hp2 : (0 : Int) < (bs.length : Int) := by omega
  obtain ⟨b0, o0, c0, l0, e0, g0, g1⟩ := hb.get8 hp
  injection e0 with z1 z2 z3 z4
  subst z1 z3 z4
  rw [Nat.add_zero] at g1
  obtain ⟨K, hK⟩ : ∃ K, bs.getD 0 0 = K := ⟨_, rfl⟩
  have hK0 := hB.get 0
  rw [hK] at g1 hK0
  have wK : IntKind.i64.wrap K = K := wrap_i64 (by omega) (by omega)
  obtain ⟨ls, hls⟩ : ∃ ls, ls = fld K := ⟨_, rfl⟩
  have hBl := fld_byt K
  have hll := fld_len K
  have hf : ∀ k H, callA ap (k + 1) (.func 14 [] []) [.int .i64 K] 0 H = some (.str (strN ls), H) := fun k H => by rw [hls]; exact fields_ok
  rw [← hls] at hBl hll
  have hu := strN_u8s hBl
  have gX : ∀ X, rowOf (H ++ X) b0 = some l0 := fun X => (Chg.app (F := []) H X).row g0 (by simp)
  simp [f20, b20, h0, hp', hp, hp2, gX, g1, wK, hf, hu, strN_size]
  obtain ⟨G, eG⟩ : ∃ G, G = H ++ [.cells (bare 0).cs .rw, .cells (bare K).cs .rw, .cells (u8s ls) .rw] := ⟨_, rfl⟩
  have cG : Chg [] H G := by rw [eG]; exact .app _ _
  have r0 : G[H.length]? = some (.cells (bare 0).cs .rw) := by rw [eG]; simp
  have r1 : G[H.length + 1]? = some (.cells (bare K).cs .rw) := by rw [eG]; simp
  have r2 : G[H.length + 2]? = some (.cells (u8s ls) .rw) := by rw [eG]; simp
  simp only [E8.cs, bare] at eG r0
  rw [← eG]
  refine hx_up (fun i s => ∃ H' ns at_, s = ⟨sp 63 [(0, .slice (some (b0, o0)) bs.length c 1), (2, .ptr (some (H.length, 0))), (4, .ptr (some (H.length + 1, 0))), (5, .int .i64 (at_ : Nat)), (24, .slice (some (H.length + 2, 0)) ls.length none 1), (25, .int .i64 ls.length), (26, .int .i64 i)], H', []⟩ ∧ Chg [H.length + 1] G H' ∧ H'[H.length + 1]? = some (.cells (evOf K (ls.take i) ns).cs .rw) ∧ ns.length = i ∧ at_ ≤ bs.length ∧ SaysE bs K ns at_) ls.length ?_ ?_ (by omega)
    ⟨G, [], 1, by simp [maskS], .refl, by rw [evOf_0]; exact r1, rfl, by omega, saysE_0 hK⟩
  · rintro i _ hi ⟨H1, ns, at_, rfl, c1, q1, hn, hat, hs⟩
    have hi' : (i : Int) < (ls.length : Int) := by omega
    have q0 := c1.get r0 (by simp)
    have q2 := rowOf_rw (c1.get r2 (by simp))
    obtain ⟨R, hR, gl⟩ := u8s_row hi
    rw [← hR] at q2
    have w : IntKind.i64.wrap ((i : Int) + 1) = (i : Int) + 1 := wrap_i64 (by omega) (by omega)
    have cH1 : Chg [] H H1 := cG.trans c1 (by simp)
    have hsn := fun v => @evOf_snoc K ls ns i v hi hn
    have hnl : ns.length < (fld K).length := by rw [← hls]; omega
    obtain ⟨v2, a2, s2, _, _⟩ := (hb.keep cH1).cut8 (low := some (.int .i64 at_)) (high := none) (lo := at_) (hi := bs.length) hat (Nat.le_refl _) (by simp [lowIs]) (by simp [highIs])
    rw [List.take_length] at s2
    generalize ls.getD i 0 = l at *
    simp [hi, hi', q2, gl, a2]
    refine Hx.mapp (take_ok s2 (hB.drop _) (by simp; omega)) ?_
    rintro ⟨r, H2⟩ e
    simp only [Prod.mk.injEq] at e
    obtain ⟨rfl, e⟩ := e
    replace e := e.symm
    subst e
    have rr0 := rowRw_rw q0
    have hrs : ∀ l, rowOf (H1.set H.length (.cells l .rw)) H.length = some l := fun l => rowOf_self (lt_of_get q0)
    have cS : ∀ X, Chg [] H (H1.set H.length X) := fun X => cH1.set_new (Nat.le_refl _) _
    by_cases hg : (got false (bs.drop at_)).2 = 0
    · have rej := rej0 (saysE_none false hs hnl (got_none hg))
      simp [hg, rr0, hrs, rej, cS]
    · have hgs := got_some hg
      generalize got false (bs.drop at_) = nk at *
      obtain ⟨n, kk⟩ := nk
      have hfar := rdn_far false _ 0 0 n kk hgs (by omega) (by decide)
      have hs' := saysE_some false hs hgs
      simp at hfar hg
      have w1 : IntKind.i64.wrap ((at_ : Int) + (kk : Int)) = (at_ : Int) + (kk : Int) := wrap_i64 (by omega) (by omega)
      have q1' := rowOf_rw q1
      simp only [E8.cs] at q1'
      simp [hg, q1']
      refine Hx.mapp (with_ok (e := evOf K (ls.take i) ns) (l := l) (v := n)) ?_
      rintro ⟨r, H3⟩ ⟨er, c3⟩
      simp only at er c3
      subst er
      rw [← hsn]
      have p3 := c3.get q1 (by simp)
      have p3' := rowRw_rw p3
      simp only [E8.cs] at p3'
      simp [p3', E8.cs, w, w1]
      refine ⟨_, ns ++ [n], at_ + kk, rfl, (c1.tr c3).trans (.set _ _ _) (by simp), List.getElem?_set_self (lt_of_get p3), by simp [hn], by omega, hs'⟩
  · rintro _ ⟨H1, ns, at_, rfl, c1, q1, hn, hat, hs⟩
    rw [List.take_length] at q1
    have hse := saysE_end hs (by rw [hn, hls])
    rw [← hls] at hse
    have q0 := c1.get r0 (by simp)
    have cH1 : Chg [] H H1 := cG.trans c1 (by simp)
    obtain ⟨ev, hev⟩ : ∃ ev, ev = evOf K ls ns := ⟨_, rfl⟩
    rw [← hev] at q1 hse
    have q1' := rowOf_rw q1
    simp only [E8.cs] at q1'
    simp [q1']
    refine Hx.mapp (put_ok (e := ev)) ?_
    rintro ⟨r, H2⟩ ⟨y, er, ny⟩
    simp only at er ny
    subst er
    have c2 := ny.2.1
    have p0 := c2.get q0 (by simp)
    have rr0 := rowRw_rw p0
    have cH2 := cH1.tr c2
    have hrs : ∀ l, rowOf (H2.set H.length (.cells l .rw)) H.length = some l := fun l => rowOf_self (lt_of_get p0)
    have cS : ∀ X, Chg [] H (H2.set H.length X) := fun X => cH2.set_new (Nat.le_refl _) _
    have p1 := rowOf_rw (c2.get q1 (by simp))
    simp only [E8.cs] at p1
    cases hr : rt ev with
    | false =>
      have rej := rej0 fun e' hr' he => by
        have := (hse e' hr' he).1
        rw [this, hr] at hr'
        cases hr'
      simp [rr0, hrs, rej, cS]
    | true =>
      simp only [hr, if_true] at ny
      simp
      refine Hx.mapp (bequal_ok ny.1 (hb.keep cH2) (putE_byt hr) hB) ?_
      rintro ⟨r, H3⟩ e
      simp only [Prod.mk.injEq] at e
      obtain ⟨rfl, e⟩ := e
      replace e := e.symm
      subst e
      by_cases hpb : putE ev = bs
      · simp [hpb, p1, rr0, hrs, cS]
        exact .inl ⟨ev, rfl, hr, hpb⟩
      · have rej := rej0 fun e' hr' he => by
          have := (hse e' hr' he).1
          rw [this] at he
          exact hpb he
        simp [hpb, rr0, hrs, rej, cS]
end
end Go.Proofs.Ytdhedlkfpdakpaa.T
