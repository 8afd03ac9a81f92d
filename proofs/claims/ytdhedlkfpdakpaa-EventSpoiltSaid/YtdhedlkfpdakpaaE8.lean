import Derived.Test.YtdhedlkfpdakpaaE7
/-! ReadEvent: the document's. -/
set_option linter.unusedVariables false
set_option linter.unusedSimpArgs false
set_option maxHeartbeats 4000000
set_option maxRecDepth 100000
namespace Go.Proofs.Ytdhedlkfpdakpaa.T
open Go Go.Ab
section
variable {k : Nat} {H : AH} {b : AV} {bs : List Int}
theorem eNums_evOf {K : Int} {ns : List Int} (hn : ns.length = (fld K).length) : eNums (evOf K (fld K) ns) = ns := by
  unfold eNums
  rw [evOf_kind]
  exact evOf_gt (fld_nodup K) (fld_letter K) hn.symm
theorem rread_ok (hb : B8 H b bs) (hB : Byt bs) (hl : bs.length ≤ 100000) :
    Hx (callA ap (k + 100) (.func 36 [] []) [b] 0 H) fun r => Chg [] H r.2 ∧ ReadsE bs r.1 := by
  rw [hx_go fn36 rfl, b36]
  obtain ⟨a, c, s, rfl⟩ := hb.len8
  have rej0 : (∀ e, rt e = true → putE e ≠ bs) → ReadsE bs (.tuple [.agg [AV.int IntKind.i64 0, AV.int IntKind.i64 0, AV.int IntKind.i64 0, AV.int IntKind.i64 0, AV.int IntKind.i64 0, AV.int IntKind.i64 0, AV.int IntKind.i64 0, AV.int IntKind.i64 0], .int .i64 13]) := fun h => .inr ⟨rfl, h⟩
  by_cases h0 : bs = []
  · have rej := rej0 fun e _ h => by have := (putE_len e).1; rw [h, h0] at this; simp at this
    subst h0
    simp [f36, b36, rej]
    exact .app _ _
  have hp : 0 < bs.length := List.length_pos_iff.2 h0
  have hp' : ¬ (bs.length : Int) = 0 := by omega
  have hp2 : (0 : Int) < (bs.length : Int) := by omega
  obtain ⟨b0, o0, c0, l0, e0, g0, g1⟩ := hb.get8 hp
  injection e0 with z1 z2 z3 z4
  subst z1 z3 z4
  rw [Nat.add_zero] at g1
  obtain ⟨K, hK⟩ : ∃ K, bs.getD 0 0 = K := ⟨_, rfl⟩
  have hK0 := hB.get 0
  have hbs : bs = K :: bs.drop 1 := by
    cases bs with
    | nil => exact absurd rfl h0
    | cons x l => simp at hK; rw [hK]; rfl
  rw [hK] at g1 hK0
  have wK : IntKind.i64.wrap K = K := wrap_i64 (by omega) (by omega)
  have gX : ∀ X, rowOf (H ++ X) b0 = some l0 := fun X => (Chg.app (F := []) H X).row g0 (by simp)
  have kind_rej : ¬ (1 ≤ K ∧ K ≤ 22) → ∀ e, rt e = true → putE e ≠ bs := fun h e hr he => by
    have h1 := rt_kind hr
    rw [← he] at hK
    simp [putE] at hK
    omega
  by_cases h1 : 1 ≤ K
  case neg =>
    have rej := rej0 (kind_rej (by omega))
    simp [f36, b36, h0, hp', hp, hp2, gX, g1, wK, kind_ok, h1, rej]
    exact .app _ _
  by_cases h22 : K ≤ 22
  case neg =>
    have rej := rej0 (kind_rej (by omega))
    simp [f36, b36, h0, hp', hp, hp2, gX, g1, wK, kind_ok, h1, h22, rej]
    exact .app _ _
  obtain ⟨ls, hls⟩ : ∃ ls, ls = fld K := ⟨_, rfl⟩
  have hBl := fld_byt K
  have hll := fld_len K
  have hf : ∀ k H, callA ap (k + 1) (.func 15 [] []) [.int .i64 K] 0 H = some (.str (strN ls), H) := fun k H => by rw [hls]; exact rfields_ok
  rw [← hls] at hBl hll
  simp [f36, b36, h0, hp', hp, hp2, gX, g1, wK, kind_ok, h1, h22, hf]
  obtain ⟨G, eG⟩ : ∃ G, G = H ++ [.cells (bare 0).cs .rw, .cells (bare K).cs .rw] := ⟨_, rfl⟩
  have cG : Chg [] H G := by rw [eG]; exact .app _ _
  have r0 : G[H.length]? = some (.cells (bare 0).cs .rw) := by rw [eG]; simp
  have r1 : G[H.length + 1]? = some (.cells (bare K).cs .rw) := by rw [eG]; simp
  simp only [E8.cs, bare] at eG r0
  rw [← eG]
  have hsz := strN_size ls
  refine hx_up (fun i s => ∃ H' ns at1, s = ⟨sp 63 [(0, .slice (some (b0, o0)) bs.length c 1), (2, .ptr (some (H.length, 0))), (4, .ptr (some (H.length + 1, 0))), (5, .int .i64 ((at1 + 1 : Nat) : Int)), (6, .str (strN ls)), (7, .int .i64 i)], H', []⟩ ∧ Chg [H.length + 1] G H' ∧ H'[H.length + 1]? = some (.cells (evOf K (ls.take i) ns).cs .rw) ∧ ns.length = i ∧ at1 + 1 ≤ bs.length ∧ SaysE bs K ns (at1 + 1) ∧ encs ns = (bs.drop 1).take at1) ls.length ?_ ?_ (by omega)
    ⟨G, [], 0, by simp [maskS], .refl, by rw [evOf_0]; exact r1, rfl, by omega, saysE_0 hK, by simp [encs]⟩
  · rintro i _ hi ⟨H1, ns, at1, rfl, c1, q1, hn, hat, hs, ho⟩
    have hi' : (i : Int) < (ls.length : Int) := by omega
    have q0 := c1.get r0 (by simp)
    obtain ⟨cc, hc, hcl⟩ := str_idx hBl hi
    have w : IntKind.i64.wrap ((i : Int) + 1) = (i : Int) + 1 := wrap_i64 (by omega) (by omega)
    have cH1 : Chg [] H H1 := cG.trans c1 (by simp)
    have hsn := fun v => @evOf_snoc K ls ns i v hi hn
    have hnl : ns.length < (fld K).length := by rw [← hls]; omega
    obtain ⟨Z, hZ⟩ : ∃ Z, Z = strN ls := ⟨_, rfl⟩
    rw [← hZ] at hc hsz ⊢
    obtain ⟨at_, hat_⟩ : ∃ at_, at_ = at1 + 1 := ⟨_, rfl⟩
    rw [← hat_] at hs hat ⊢
    generalize ls.getD i 0 = l at *
    simp [hi, hi', hsz]
    refine Hx.mapp (rnum_ok (hb.keep cH1) hB (by omega) (at_ := at_) hat) ?_
    rintro ⟨r, H2⟩ e
    simp only [Prod.mk.injEq] at e
    obtain ⟨rfl, e⟩ := e
    replace e := e.symm
    subst e
    have rr0 := rowRw_rw q0
    have hrs : ∀ l, rowOf (H1.set H.length (.cells l .rw)) H.length = some l := fun l => rowOf_self (lt_of_get q0)
    have cS : ∀ X, Chg [] H (H1.set H.length X) := fun X => cH1.set_new (Nat.le_refl _) _
    cases e0 : rdn true (bs.drop at_) 0 0 with
    | none =>
      have rej := rej0 (saysE_none true hs hnl e0)
      simp [rr0, hrs, rej, cS]
    | some vk =>
      obtain ⟨v, kk⟩ := vk
      have hs' := saysE_some true hs e0
      have hfar := rdn_far true _ 0 0 v kk e0 (by omega) (by decide)
      have ho' : encs (ns ++ [v]) = (bs.drop 1).take (at1 + kk) := own_step (hB.drop 1) ho (by rw [List.drop_drop, Nat.add_comm 1 at1, ← hat_]; exact e0)
      have hnk : ¬ (at_ : Int) + (kk : Int) < 0 := by omega
      simp at hfar
      simp [hnk]
      refine hx_drawn dc36_11 fun H3 c3 hl3 hd3 => ?_
      have q1' := rowOf_rw (c3.get q1 (by simp))
      simp only [E8.cs] at q1'
      simp [d36_11, hc, hcl, q1']
      refine Hx.mapp (rwith_ok (e := evOf K (ls.take i) ns) (l := l) (v := v)) ?_
      rintro ⟨r, H4⟩ ⟨er, c4⟩
      simp only at er c4
      subst er
      rw [← hsn]
      have p3 := c4.get (c3.get q1 (by simp)) (by simp)
      have p3' := rowRw_rw p3
      simp only [E8.cs] at p3'
      simp [p3', E8.cs, w]
      refine ⟨_, ns ++ [v], at1 + kk, ?_, ((c1.tr c3).tr c4).trans (.set _ _ _) (by simp), List.getElem?_set_self (lt_of_get p3), by simp [hn], by omega, by rw [show at1 + kk + 1 = at_ + kk by omega]; exact hs', by simpa using ho'⟩
      have : (at_ : Int) + (kk : Int) = (at1 : Int) + (kk : Int) + 1 := by omega
      simp [maskS, this]
  · rintro _ ⟨H1, ns, at1, rfl, c1, q1, hn, hat, hs, ho⟩
    rw [List.take_length] at q1
    have hse := saysE_end hs (by rw [hn, hls])
    have hnum := eNums_evOf (K := K) (ns := ns) (by rw [hn, hls])
    rw [← hls] at hse hnum
    have q0 := c1.get r0 (by simp)
    have cH1 : Chg [] H H1 := cG.trans c1 (by simp)
    have hkk := evOf_kind K ls ns
    obtain ⟨ev, hev⟩ : ∃ ev, ev = evOf K ls ns := ⟨_, rfl⟩
    rw [← hev] at q1 hse hnum hkk
    have q1' := rowOf_rw q1
    simp only [E8.cs] at q1'
    obtain ⟨at_, hat_⟩ : ∃ at_, at_ = at1 + 1 := ⟨_, rfl⟩
    rw [← hat_] at hs hat hse ⊢
    have rr0 := rowRw_rw q0
    have hrs : ∀ l, rowOf (H1.set H.length (.cells l .rw)) H.length = some l := fun l => rowOf_self (lt_of_get q0)
    have cS : ∀ X, Chg [] H (H1.set H.length X) := fun X => cH1.set_new (Nat.le_refl _) _
    by_cases hat2 : at_ = bs.length
    case neg =>
      have hat3 : ¬ (at_ : Int) = (bs.length : Int) := by omega
      have rej := rej0 fun e hr he => hat2 (by have := (hse e hr he).2; omega)
      simp [hsz, hat2, hat3, rr0, hrs, cS, rej]
    case pos =>
      simp [hsz, hat2, q1']
      refine Hx.mapp (rright_ok (e := ev)) ?_
      rintro ⟨r, H2⟩ ⟨er, c2⟩
      simp only at er c2
      subst er
      have p0 := c2.get q0 (by simp)
      have rr2 := rowRw_rw p0
      have hrs2 : ∀ l, rowOf (H2.set H.length (.cells l .rw)) H.length = some l := fun l => rowOf_self (lt_of_get p0)
      have cS2 : ∀ X, Chg [] H (H2.set H.length X) := fun X => (cH1.tr c2).set_new (Nat.le_refl _) _
      have p1 := rowOf_rw (c2.get q1 (by simp))
      simp only [E8.cs] at p1
      cases hr : rt ev with
      | false =>
        have rej := rej0 fun e' hr' he => by
          rw [(hse e' hr' he).1, hr] at hr'
          cases hr'
        simp [rr2, hrs2, rej, cS2]
      | true =>
        simp [rr2, hrs2, cS2, p1]
        refine .inl ⟨ev, rfl, hr, ?_⟩
        unfold putE
        rw [hnum, hkk, ho, List.take_of_length_le (by simp; omega)]
        exact hbs.symm
end
end Go.Proofs.Ytdhedlkfpdakpaa.T
