import Derived.Test.YtjpmddjibeecbaaGQ144
section
/-! Decks: numbers that are drawn. Nothing is told of them but their bounds. -/
set_option linter.unusedVariables false
set_option linter.unusedSimpArgs false
set_option maxHeartbeats 4000000
set_option maxRecDepth 100000
namespace Go.Proofs.Ytjpmddjibeecbaa.T
open Go Go.Ab
def U64 (n : Int) : Prop := 0 ≤ n ∧ n < 18446744073709551616
def u64s (l : List Int) : List AV := l.map (AV.int .u64)
@[simp] theorem u64s_len {l : List Int} : (u64s l).length = l.length := by simp [u64s]
/-- A deck, of which at most n numbers were drawn. -/
def Dk (H : AH) (p n : Nat) : Prop := ∃ (v : AV) (L : List Int) (i : Nat), H[p]? = some (.cells [v, .int .i64 i] .rw) ∧ SL H 1 v (u64s L) ∧ (∀ x ∈ L, U64 x) ∧ (∀ b ∈ blk v, b < p) ∧ i ≤ n
theorem Dk.chg {H H' : AH} {p n : Nat} {F : List Nat} (h : Dk H p n) (c : Chg F H H') (hF : ∀ i ∈ F, p < i) : Dk H' p n := by
  obtain ⟨v, L, i, h1, h2, h3, h4, h5⟩ := h
  exact ⟨v, L, i, c.get h1 (fun hp => by have := hF p hp; omega), h2.chg c (fun b hb hf => by have := hF b hf; have := h4 b hb; omega), h3, h4, h5⟩
theorem Dk.keep {H H' : AH} {p n : Nat} (h : Dk H p n) (c : Chg [] H H') : Dk H' p n := h.chg c (by simp)
theorem Dk.more {H : AH} {p n m : Nat} (h : Dk H p n) (hm : n ≤ m) : Dk H p m := by
  obtain ⟨v, L, i, h1, h2, h3, h4, h5⟩ := h
  exact ⟨v, L, i, h1, h2, h3, h4, by omega⟩
theorem Dk.lt {H : AH} {p n : Nat} (h : Dk H p n) : p < H.length := by
  obtain ⟨v, L, i, h1, _⟩ := h
  exact lt_of_get h1
section
variable {k p n : Nat} {H : AH}
theorem next_ok (h : Dk H p n) (hn : n ≤ 1000000) : Hx (callA ap (k + 1) (.func 24 [] []) [.ptr (some (p, 0))] 0 H) fun r => ∃ x, r.1 = .int .u64 x ∧ U64 x ∧ Dk r.2 p (n + 1) ∧ Chg [p] H r.2 := by
  obtain ⟨v, L, i, h1, h2, h3, h4, h5⟩ := h
  rw [hx_go fn24 rfl, b24]
  obtain ⟨a, c, s, rfl⟩ := h2.form1
  have hw : IntKind.i64.wrap ((i : Int) + 1) = ((i + 1 : Nat) : Int) := by rw [wrap_i64 (by omega) (by omega)]; omega
  have fin : ∀ {H2 : AH}, Chg [] H H2 → Dk (H2.set p (.cells [.slice a (u64s L).length c s, .int .i64 ((i + 1 : Nat) : Int)] .rw)) p (n + 1) ∧ Chg [p] H (H2.set p (.cells [.slice a (u64s L).length c s, .int .i64 ((i + 1 : Nat) : Int)] .rw)) := fun {H2} c2 => by
    have g := c2.get h1 (by simp)
    refine ⟨⟨_, L, i + 1, List.getElem?_set_self (lt_of_get g), (h2.keep c2).chg (.set _ _ _) (fun b hb => by have := h4 b hb; simp; omega), h3, h4, by omega⟩, c2.nil.trans (.set _ _ _) (by simp)⟩
  simp [f24, b24]
  refine hx_drawn dc24_2 fun H1 c1 hl1 hd1 => ?_
  have g1 := rowOf_rw (c1.get h1 (by simp))
  by_cases hi : i < L.length
  · simp [d24_2, eqV, g1, hi]
    refine hx_drawn dc24_3 fun H2 c2 hl2 hd2 => ?_
    have c2 := c1.tr c2
    have g2 := c2.get h1 (by simp)
    obtain ⟨b0, o0, c0, r0, e0, k1, k2⟩ := (h2.keep c2).get1 (i := i) (by simpa using hi)
    injection e0 with z1 z2 z3 z4
    subst z1 z3 z4
    have k2 : r0[o0 + i]? = some (.int .u64 L[i]) := by rw [k2]; simp [u64s, hi]
    have hx : U64 L[i] := h3 _ (List.getElem_mem hi)
    generalize L[i] = x at *
    have f2 := fin c2
    simp only [u64s_len] at f2
    simp [d24_3, eqV, rowOf_rw g2, rowRw_rw g2, k1, k2, hi, hw]
    exact ⟨hx, f2⟩
  · have f1 := fin c1
    simp only [u64s_len] at f1
    have g2 := c1.get h1 (by simp)
    simp [d24_2, eqV, g1, hi, rowRw_rw g2, hw]
    exact ⟨⟨by omega, by omega⟩, f1⟩
theorem wrap_u64_in {x : Int} (h : U64 x) : IntKind.u64.wrap x = x := wraps_u64 x h.1 (by have := h.2; omega)
theorem n_ok (h : Dk H p n) (hn : n ≤ 1000000) {m : Int} (h1 : 1 ≤ m) (h2 : m ≤ 1000000000000) : Hx (callA ap (k + 2) (.func 12 [] []) [.ptr (some (p, 0)), .int .i64 m] 0 H) fun r => ∃ x, r.1 = .int .i64 x ∧ (0 ≤ x ∧ x < m) ∧ Dk r.2 p (n + 1) ∧ Chg [p] H r.2 := by
  rw [hx_go fn12 rfl, b12]
  simp [f12, b12]
  refine Hx.mapp (next_ok h hn) ?_
  rintro ⟨r, H2⟩ ⟨x, e, hx, hd, c⟩
  simp only at e hd c
  subst e
  have hm : IntKind.u64.wrap m = m := wrap_u64_in ⟨by omega, by omega⟩
  have hm0 : ¬ m = 0 := by omega
  have ht : x.tmod m = x % m := Int.tmod_eq_emod_of_nonneg hx.1
  have h3 := Int.emod_nonneg x hm0
  have h4 := Int.emod_lt_of_pos x (b := m) (by omega)
  have hw : IntKind.i64.wrap (x % m) = x % m := wrap_i64 (by omega) (by omega)
  simp [hm, hm0, ht, hw]
  exact ⟨⟨h3, h4⟩, hd, c⟩
theorem of_ok {v : AV} {L : List Int} (h : SL H 1 v (u64s L)) (hL : ∀ x ∈ L, U64 x) : Hx (callA ap (k + 1) (.func 10 [] []) [v] 0 H) fun r => r.1 = .ptr (some (H.length, 0)) ∧ Dk r.2 H.length 0 ∧ Chg [] H r.2 := by
  rw [hx_go fn10 rfl, b10]
  obtain ⟨a, c, s, rfl⟩ := h.form1
  simp only [u64s_len] at h
  simp [f10, b10]
  refine ⟨⟨.slice a L.length c s, L, 0, by simp, by simpa using h.keep (.app _ _), hL, fun b hb => ?_, Nat.le_refl 0⟩, .app _ _⟩
  exact h.lt b hb
end
end Go.Proofs.Ytjpmddjibeecbaa.T
end
section
/-! Orders that are drawn. -/
set_option linter.unusedVariables false
set_option linter.unusedSimpArgs false
set_option maxHeartbeats 4000000
set_option maxRecDepth 100000
namespace Go.Proofs.Ytjpmddjibeecbaa.T.Qu
open Go Go.Ab
/-- What drawn orders are like. -/
structure Drawn (l : List Od) (id : Int) : Prop where
  ok : ∀ x ∈ l, 1 ≤ x.id ∧ x.id ≤ id ∧ 1 ≤ x.acc ∧ x.acc ≤ 5 ∧ 0 ≤ x.inst ∧ x.inst ≤ 1 ∧ (x.side = 1 ∨ x.side = 2) ∧ 1 ≤ x.q ∧ x.q ≤ 20 ∧ 95 ≤ x.p ∧ x.p ≤ 104
  up : l.Pairwise fun a b => a.id < b.id
  top : 0 ≤ id ∧ id ≤ 3 * l.length
theorem Drawn.snoc {l : List Od} {id d : Int} (h : Drawn l id) {x : Od} (hd : 1 ≤ d ∧ d ≤ 3) (hx : x.id = id + d) (ho : 1 ≤ x.acc ∧ x.acc ≤ 5 ∧ 0 ≤ x.inst ∧ x.inst ≤ 1 ∧ (x.side = 1 ∨ x.side = 2) ∧ 1 ≤ x.q ∧ x.q ≤ 20 ∧ 95 ≤ x.p ∧ x.p ≤ 104) : Drawn (l ++ [x]) (id + d) := by
  have ht := h.top
  refine ⟨fun y hy => ?_, List.pairwise_append.2 ⟨h.up, by simp, fun a ha b hb => ?_⟩, by simp; omega⟩
  · rcases List.mem_append.1 hy with hy | hy
    · have := h.ok y hy; omega
    · simp at hy; subst hy; omega
  · simp at hb; subst hb
    have := h.ok a ha; omega
section
variable {k p n : Nat} {H : AH}
theorem norders_ok {most : Nat} (h : Dk H p n) (hn : n + 10 * most ≤ 100000) (hm : most ≤ 100) (hk : most + 50 < k) : Hx (callA ap k (.func 11 [] []) [.ptr (some (p, 0)), .int .i64 most] 0 H) fun r =>
    ∃ l id, Mine r.2 6 r.1 (odsC l) ∧ Drawn l id ∧ l.length ≤ most ∧ Dk r.2 p (n + 1 + 6 * l.length) ∧ Chg [p] H r.2 ∧ ∀ b ∈ blk r.1, H.length ≤ b := by
  obtain ⟨k, rfl⟩ : ∃ k', k = k' + 9 := ⟨k - 9, by omega⟩
  rw [hx_go fn11 rfl, b11]
  have w0 : IntKind.i64.wrap ((most : Int) + 1) = (most : Int) + 1 := wrap_i64 (by omega) (by omega)
  have hpl := h.lt
  simp [w0]
  refine Hx.mapp (n_ok (k := k + 6) h (by omega) (m := (most : Int) + 1) (by omega) (by omega)) ?_
  rintro ⟨r, H1⟩ ⟨x, e, hx, d1, c1⟩
  simp only at e d1 c1
  subst e
  obtain ⟨j0, rfl⟩ : ∃ j0 : Nat, x = j0 := ⟨x.toNat, by omega⟩
  simp
  refine hx_down (fun j st => ∃ H' v l id, st = ⟨sp 41 [(0, .ptr (some (p, 0))), (5, v), (6, .int .i64 id), (7, .int .i64 (j : Nat))], H', []⟩ ∧ Mine H' 6 v (odsC l) ∧ (∀ b ∈ blk v, H.length ≤ b) ∧ Dk H' p (n + 1 + 6 * l.length) ∧ Chg [p] H H' ∧ l.length + j = j0 ∧ Drawn l id) (j := j0) ?_ (by omega)
    ⟨H1, .slice none 0 (some 0) 0, [], 0, by simp [maskS], .nil _ _, by simp, by simpa using d1, c1, by simp, ⟨by simp, .nil, by simp⟩⟩
  rintro j st ⟨H2, v, l, id, rfl, hv, hb, hd, c2, hlj, hdr⟩
  have hj0 : (j0 : Int) ≤ most := by omega
  have hll : l.length ≤ most := by omega
  cases j with
  | zero =>
    obtain ⟨av, cv, sv, ev⟩ := SO.form hv.sl
    subst ev
    simp
    exact ⟨l, hv, ⟨id, hdr⟩, hll, hd, c2, hb⟩
  | succ j =>
    have ht := hdr.top
    have hp0 : (0 : Int) < (j : Int) + 1 := by omega
    have wj : IntKind.i64.wrap ((j : Int) + 1 - 1) = (j : Int) := by rw [wrap_i64 (by omega) (by omega)]; omega
    have wj' : IntKind.i64.wrap (j : Int) = (j : Int) := wrap_i64 (by omega) (by omega)
    simp [hp0]
    refine Hx.mapp (n_ok (k := k + 6) hd (by omega) (m := 3) (by omega) (by omega)) ?_
    rintro ⟨r, H3⟩ ⟨d, e, hdd, d3, c3⟩
    simp only at e d3 c3
    subst e
    have w1 : IntKind.i64.wrap (1 + d) = 1 + d := wrap_i64 (by omega) (by omega)
    have w2 : IntKind.i64.wrap (id + (1 + d)) = id + (1 + d) := wrap_i64 (by omega) (by omega)
    simp [w1, w2]
    refine Hx.mapp (n_ok (k := k + 6) d3 (by omega) (m := 5) (by omega) (by omega)) ?_
    rintro ⟨r, H4⟩ ⟨x1, e, hx1, d4, c4⟩
    simp only at e d4 c4
    subst e
    have w3 : IntKind.i64.wrap (1 + x1) = 1 + x1 := wrap_i64 (by omega) (by omega)
    simp [w3]
    refine Hx.mapp (n_ok (k := k + 6) d4 (by omega) (m := 2) (by omega) (by omega)) ?_
    rintro ⟨r, H5⟩ ⟨x2, e, hx2, d5, c5⟩
    simp only at e d5 c5
    subst e
    simp
    refine Hx.mapp (n_ok (k := k + 6) d5 (by omega) (m := 2) (by omega) (by omega)) ?_
    rintro ⟨r, H6⟩ ⟨x3, e, hx3, d6, c6⟩
    simp only at e d6 c6
    subst e
    have w4 : IntKind.i64.wrap (1 + x3) = 1 + x3 := wrap_i64 (by omega) (by omega)
    simp [w4]
    refine Hx.mapp (n_ok (k := k + 6) d6 (by omega) (m := 20) (by omega) (by omega)) ?_
    rintro ⟨r, H7⟩ ⟨x4, e, hx4, d7, c7⟩
    simp only at e d7 c7
    subst e
    have w5 : IntKind.i64.wrap (1 + x4) = 1 + x4 := wrap_i64 (by omega) (by omega)
    simp [w5]
    refine Hx.mapp (n_ok (k := k + 6) d7 (by omega) (m := 10) (by omega) (by omega)) ?_
    rintro ⟨r, H8⟩ ⟨x5, e, hx5, d8, c8⟩
    simp only at e d8 c8
    subst e
    have w6 : IntKind.i64.wrap (95 + x5) = 95 + x5 := wrap_i64 (by omega) (by omega)
    have c28 : Chg [p] H2 H8 := c3.tr' (c4.tr' (c5.tr' (c6.tr' (c7.tr' c8))))
    obtain ⟨x, ex⟩ : ∃ x : Od, x = ⟨id + (1 + d), 1 + x1, x2, 1 + x3, 1 + x4, 95 + x5⟩ := ⟨_, rfl⟩
    obtain ⟨V2, e2⟩ : ∃ V2, V2 = H8 ++ [.cells x.cs .pl] := ⟨_, rfl⟩
    have cV : Chg [] H8 V2 := by rw [e2]; exact .app _ _
    have slY : SL V2 6 (.slice (some (H8.length, 0)) 1 (some 1) 6) x.cs := .at_ H8.length 0 1 (some 1) x.cs _ (by omega) (by rw [e2]; simp [rowOf]) (by simp [Od.cs]) (by simp [Od.cs]) (by simp)
    have hpb : ∀ i ∈ blk v, i ∉ [p] := fun i hi => by have := hb i hi; simp; omega
    have hv8 := (hv.chg c28 hpb).keep cV
    have happ := hv8.append slY (by_ := 48) (by omega) (by omega) (by simp [Od.cs]) (by simp [room, Od.cs]; omega)
    simp only [Od.cs, ex] at e2
    obtain ⟨av, cv, sv, ev⟩ := SO.form hv.sl
    rw [ev] at happ
    simp [w6, ev]
    rw [← e2]
    refine Hx.mapp happ ?_
    rw [← ev]
    rintro ⟨v', H9⟩ ⟨t1, t2, t3⟩
    simp only at t1 t2 t3
    rw [← odsC_snoc] at t1
    obtain ⟨av', cv', sv', ev'⟩ := SO.form t1.sl
    rw [ev']
    have c29 : Chg [p] H H9 := (c2.tr' (c28.tr cV)).trans t2 (fun i hi => .inr (hb i hi))
    have d9 : Dk H9 p (n + 1 + 6 * (l.length + 1)) := ((d8.keep cV).chg t2 (fun i hi => by have := hb i hi; omega)).more (by omega)
    simp [maskS, wj, wj']
    refine ⟨j, by omega, H9, v', l ++ [x], id + (1 + d), ?_, t1, fun b hb' => ?_, by simpa using d9, c29, by simp; omega, hdr.snoc (by omega) (by rw [ex]) (by rw [ex]; simp only; omega)⟩
    · simp [ev']
    · rcases t3 b hb' with h' | h'
      · exact hb b h'
      · have := cV.1; have := c28.1; have := c2.1; omega
end
end Go.Proofs.Ytjpmddjibeecbaa.T.Qu
end
section
/-! Orders that rest. -/
set_option linter.unusedVariables false
set_option linter.unusedSimpArgs false
set_option maxHeartbeats 4000000
set_option maxRecDepth 100000
namespace Go.Proofs.Ytjpmddjibeecbaa.T.Qu
open Go Go.Ab
def stepR (l : List Od) (o : Od) : List Od := if 0 < (matchB l o).2.2.1 ∧ (matchB l o).1.length < 32 then (matchB l o).1 ++ [{ o with q := (matchB l o).2.2.1 }] else (matchB l o).1
def restN (os : List Od) : Nat → List Od
  | 0 => []
  | n + 1 => stepR (restN os n) (os.getD n dO)
theorem stepR_len {l : List Od} {o : Od} (h : l.length ≤ 32) : (stepR l o).length ≤ 32 := by
  have := (matchB_len (l := l) (o := o)).1
  unfold stepR
  split
  · simp; omega
  · omega
theorem restN_len (os : List Od) : ∀ n, (restN os n).length ≤ 32
  | 0 => by simp [restN]
  | n + 1 => stepR_len (restN_len os n)
section
variable {k p n : Nat} {H : AH}
theorem resting_ok (h : Dk H p n) (hn : n ≤ 10000) (hk : 300 < k) : Hx (callA ap k (.func 13 [] []) [.ptr (some (p, 0))] 0 H) fun r =>
    ∃ os id, Drawn os id ∧ os.length ≤ 40 ∧ Mine r.2 6 r.1 (odsC (restN os os.length)) ∧ Dk r.2 p (n + 300) ∧ Chg [p] H r.2 ∧ ∀ b ∈ blk r.1, H.length ≤ b := by
  obtain ⟨k, rfl⟩ : ∃ k', k = k' + 9 := ⟨k - 9, by omega⟩
  rw [hx_go fn13 rfl, b13]
  have hpl := h.lt
  simp
  refine Hx.mapp (norders_ok (k := k + 8) (most := 40) h (by omega) (by omega) (by omega)) ?_
  rintro ⟨v0, H1⟩ ⟨os, id, hv, hdr, hlen, hd, c1, hb⟩
  simp only at hv hd c1 hb
  obtain ⟨a0, c0, s0, e0⟩ := SO.form hv.sl
  subst e0
  simp
  refine hx_up (fun i st => ∃ H' v, st = ⟨sp 41 [(3, v), (11, .slice a0 os.length c0 s0), (12, .int .i64 os.length), (13, .int .i64 i)], H', []⟩ ∧ Mine H' 6 v (odsC (restN os i)) ∧ (∀ b ∈ blk v, H1.length ≤ b) ∧ Chg [] H1 H') os.length ?_ ?_ (by omega)
    ⟨H1, .slice none 0 (some 0) 0, by simp [maskS], .nil _ _, by simp, .refl⟩
  · rintro i st hi ⟨H2, v, rfl, hv2, hb2, c2⟩
    have hi' : (i : Int) < os.length := by omega
    have wi : IntKind.i64.wrap ((i : Int) + 1) = (i : Int) + 1 := wrap_i64 (by omega) (by omega)
    obtain ⟨b, o, c', r, e, g0, gg⟩ := SO.all (hv.sl.keep c2) (by intro h; simp [h] at hi)
    injection e with z1 z2 z3 z4
    subst z1 z3 z4
    obtain ⟨g1, g2, -⟩ := gg i hi
    obtain ⟨x, hxx⟩ : ∃ x, x = os[i] := ⟨_, rfl⟩
    rw [← hxx] at g2
    have hgd : os.getD i dO = x := by rw [getd hi, hxx]
    obtain ⟨G, eG⟩ : ∃ G, G = H2 ++ [.cells x.cs .rw] := ⟨_, rfl⟩
    have cG : Chg [] H2 G := by rw [eG]; exact .app _ _
    have rG : rowOf G H2.length = some x.cs := by rw [eG]; simp [Od.cs]
    have hl := restN_len os i
    have hm := rmatch_ok (k := k + 8) (o := x) (hv2.keep cG).sl (by omega) (by omega)
    rw [match_same] at hm
    have hml := (matchB_len (l := restN os i) (o := x)).1
    obtain ⟨av, cv, sv, ev⟩ := SO.form hv2.sl
    rw [ev] at hm
    have gG : G[H2.length]? = some (.cells x.cs .rw) := by rw [eG]; simp
    simp only [Od.cs] at eG g2 rG hm gG
    simp [hi', hi, g0, g1, g2]
    rw [← eG, ev]
    simp [rG]
    refine Hx.mapp hm ?_
    rintro ⟨r', H3⟩ ⟨vr, vt, er, hvr, hvt, c3, hbr⟩
    simp only at er hvr hvt c3 hbr
    subst er
    obtain ⟨ar, cr, sr, er⟩ := SO.form hvr.sl
    obtain ⟨at_, ct, st, et⟩ := ST.form hvt
    subst er et
    have gG3 := c3.get gG (by simp)
    have rG3 := rowOf_rw gG3
    have rw3 : rowRw H3 0 H2.length = some _ := rowRw_rw gG3
    obtain ⟨R, eR⟩ : ∃ R, R = matchB (restN os i) x := ⟨_, rfl⟩
    have hst : restN os (i + 1) = if 0 < R.2.2.1 ∧ R.1.length < 32 then R.1 ++ [{ x with q := R.2.2.1 }] else R.1 := by
      rw [restN, hgd, stepR, ← eR]
    rw [← eR] at hvr hvt hml hbr ⊢
    by_cases h0 : 0 < R.2.2.1
    · by_cases h32 : R.1.length < 32
      · have h32' : (R.1.length : Int) < 32 := by omega
        have hs : restN os (i + 1) = R.1 ++ [{ x with q := R.2.2.1 }] := by rw [hst, if_pos ⟨h0, h32⟩]
        obtain ⟨W, eW⟩ : ∃ W, W = H3.set H2.length (.cells [.int .i64 x.id, .int .i64 x.acc, .int .i64 x.inst, .int .i64 x.side, .int .i64 R.2.2.1, .int .i64 x.p] .rw) := ⟨_, rfl⟩
        have cW : Chg [H2.length] H3 W := by rw [eW]; exact .set _ _ _
        have rW : rowOf W H2.length = some [.int .i64 x.id, .int .i64 x.acc, .int .i64 x.inst, .int .i64 x.side, .int .i64 R.2.2.1, .int .i64 x.p] := by rw [eW]; exact rowOf_self (lt_of_get gG3)
        obtain ⟨V2, e2⟩ : ∃ V2, V2 = W ++ [.cells (Od.cs { x with q := R.2.2.1 }) .pl] := ⟨_, rfl⟩
        have cV : Chg [] W V2 := by rw [e2]; exact .app _ _
        have slY : SL V2 6 (.slice (some (W.length, 0)) 1 (some 1) 6) (Od.cs { x with q := R.2.2.1 }) := .at_ W.length 0 1 (some 1) (Od.cs { x with q := R.2.2.1 }) _ (by omega) (by rw [e2]; simp [rowOf]) (by simp [Od.cs]) (by simp [Od.cs]) (by simp)
        have hG1 : H2.length < G.length := lt_of_get gG
        have happ := ((hvr.chg cW (fun b hb' => by have := hbr b hb'; simp; omega)).keep cV).append slY (by_ := 48) (by omega) (by omega) (by simp [Od.cs]) (by simp [room, Od.cs]; omega)
        simp only [Od.cs] at e2
        simp [h0, h32, h32', rG3, rw3]
        rw [← eW]
        simp [rW]
        rw [← e2]
        refine Hx.mapp happ ?_
        rintro ⟨v', H5⟩ ⟨t1, t2, t3⟩
        simp only at t1 t2 t3
        rw [← odsC_snoc, ← hs] at t1
        obtain ⟨av', cv', sv', ev'⟩ := SO.form t1.sl
        subst ev'
        simp [maskS, wi]
        refine ⟨H5, _, ⟨rfl, rfl⟩, t1, fun b hb' => ?_, ?_⟩
        · have h1 := c2.1; have h2 := cG.1; have h3 := c3.1; have h4 := cW.1; have h5 := cV.1
          rcases t3 b hb' with h' | h'
          · have := hbr b h'; omega
          · omega
        · exact (((c2.tr (cG.tr c3)).trans cW (fun i hi => .inr (by simp at hi; have := c2.1; omega))).tr cV).trans t2 (fun i hi => .inr (by have := hbr i hi; have := c2.1; omega))
      · have h32' : ¬ (R.1.length : Int) < 32 := by omega
        have hs : restN os (i + 1) = R.1 := by rw [hst, if_neg (fun h => h32 h.2)]
        simp [h0, h32, h32', maskS, wi]
        exact ⟨H3, _, ⟨rfl, rfl⟩, by rw [hs]; exact hvr, fun b hb' => by have := hbr b hb'; have := cG.1; have := c2.1; omega, c2.tr (cG.tr c3)⟩
    · have hs : restN os (i + 1) = R.1 := by rw [hst, if_neg (fun h => h0 h.1)]
      simp [h0, maskS, wi]
      exact ⟨H3, _, ⟨rfl, rfl⟩, by rw [hs]; exact hvr, fun b hb' => by have := hbr b hb'; have := cG.1; have := c2.1; omega, c2.tr (cG.tr c3)⟩
  · rintro st ⟨H2, v, rfl, hv2, hb2, c2⟩
    obtain ⟨av, cv, sv, ev⟩ := SO.form hv2.sl
    subst ev
    simp
    exact ⟨os, ⟨id, hdr⟩, hlen, hv2, (hd.keep c2).more (by omega), c1.tr c2, fun b hb' => by have := hb2 b hb'; have := c1.1; omega⟩
end
end Go.Proofs.Ytjpmddjibeecbaa.T.Qu
end
section
/-! Arguments of a law: a row of uint64. -/
set_option linter.unusedVariables false
set_option linter.unusedSimpArgs false
namespace Go.Proofs.Ytjpmddjibeecbaa.T
open Go Go.Ab
theorem ar_u64s {m : Nat} {H : AH} {t e : Nat} {ti te : TI} {al : List AV} (h : AR ap m H t al) (ht : ap.ty t = some ti) (htd : ti.td = .slice e) (he : ap.ty e = some te) (hed : te.td = .int .u64) (hes : te.sz = 1) :
    ∃ v L, al = [v] ∧ SL H 1 v (u64s L) ∧ ∀ x ∈ L, U64 x := by
  obtain ⟨v, es, m2, rfl, hs, hx⟩ := ar_slice h ht htd he
  rw [hes] at hs
  obtain ⟨l, hl, hq⟩ := list_choose (R := fun (x : List AV) (a : Int) => x = [.int .u64 a] ∧ U64 a) es (fun x hm => by
    obtain ⟨z, rfl, w⟩ := ar_int (hx x hm).2 he hed
    refine ⟨z, rfl, ?_⟩
    simp [Lit.wf, IntKind.has, IntKind.min, IntKind.max, IntKind.bits, IntKind.signed] at w
    unfold U64; omega)
  have hes : es.flatten = u64s l := by
    have : es = l.map fun a => [AV.int .u64 a] := by
      refine List.ext_getElem? fun i => ?_
      rw [List.getElem?_map]
      by_cases hi : i < es.length
      · have := hq i es[i] l[i] (List.getElem?_eq_getElem hi) (List.getElem?_eq_getElem (by omega))
        rw [List.getElem?_eq_getElem hi, List.getElem?_eq_getElem (by omega), this.1]
        rfl
      · rw [List.getElem?_eq_none (by omega), List.getElem?_eq_none (by omega)]
        rfl
    rw [this]
    unfold u64s
    clear hs hq hl hx this
    induction l with
    | nil => rfl
    | cons x l ih => simp only [List.map_cons, List.flatten_cons, List.singleton_append]; rw [ih]
  refine ⟨v, l, rfl, by rw [hes] at hs; exact hs, fun x hm => ?_⟩
  obtain ⟨i, hi⟩ := List.getElem?_of_mem hm
  have hil : i < l.length := (List.getElem?_eq_some_iff.1 hi).1
  exact (hq i _ _ (List.getElem?_eq_getElem (by omega : i < es.length)) hi).2
theorem wf_u8 {z : Int} (h : (Lit.int .u8 z).wf = true) : 0 ≤ z ∧ z < 256 := by
  simp [Lit.wf, IntKind.has, IntKind.min, IntKind.max, IntKind.bits, IntKind.signed] at h
  omega
theorem wf_i64' {z : Int} (h : (Lit.int .i64 z).wf = true) : I64 z := by
  simp [Lit.wf, IntKind.has, IntKind.min, IntKind.max, IntKind.bits, IntKind.signed] at h
  unfold I64; omega
end Go.Proofs.Ytjpmddjibeecbaa.T
end
section
/-! MatchDrawn. -/
set_option linter.unusedVariables false
set_option linter.unusedSimpArgs false
set_option maxHeartbeats 4000000
set_option maxRecDepth 100000
namespace Go.Proofs.Ytjpmddjibeecbaa.T.Qu
open Go Go.Ab
section
variable {k p n : Nat} {H : AH}
theorem knownK {K : Nat} {H : AH} (h : 0 < K) : callA ap K (.func 8 [] []) [] 0 H = some (.bool true, H) := by
  have := known_ok (k := K - 1) (lo := 0) (H := H)
  rwa [show K - 1 + 1 = K by omega] at this
theorem matchDrawn_ok {v : AV} {L : List Int} (h : SL H 1 v (u64s L)) (hL : ∀ x ∈ L, U64 x) (hk : 1000 < k) : Hx (callA ap k (.func 4 [] []) [v] 0 H) fun r => r.1 = .bool true := by
  obtain ⟨k, rfl⟩ : ∃ k', k = k' + 9 := ⟨k - 9, by omega⟩
  rw [hx_go fn4 rfl, b4]
  have hkn := fun H => knownK (K := k + 8) (H := H) (by omega)
  simp [hkn]
  refine Hx.mapp (of_ok (k := k + 7) h hL) ?_
  rintro ⟨r, H1⟩ ⟨e, d1, c1⟩
  simp only at e d1 c1
  subst e
  obtain ⟨p, hp⟩ : ∃ p, p = H.length := ⟨_, rfl⟩
  rw [← hp] at d1 ⊢
  simp
  refine Hx.mapp (norders_ok (k := k + 8) (most := 32) d1 (by omega) (by omega) (by omega)) ?_
  rintro ⟨v0, H2⟩ ⟨os, id, hv, hdr, hlen, d2, c2, hb⟩
  simp only at hv d2 c2 hb
  obtain ⟨a0, c0, s0, e0⟩ := SO.form hv.sl
  subst e0
  simp
  refine Hx.mapp (n_ok (k := k + 6) d2 (by omega) (m := 6) (by omega) (by omega)) ?_
  rintro ⟨r, H3⟩ ⟨x1, e, hx1, d3, c3⟩
  simp only at e d3 c3
  subst e
  have w1 : IntKind.i64.wrap (1 + x1) = 1 + x1 := wrap_i64 (by omega) (by omega)
  simp [w1]
  refine Hx.mapp (n_ok (k := k + 6) d3 (by omega) (m := 2) (by omega) (by omega)) ?_
  rintro ⟨r, H4⟩ ⟨x2, e, hx2, d4, c4⟩
  simp only at e d4 c4
  subst e
  simp
  refine Hx.mapp (n_ok (k := k + 6) d4 (by omega) (m := 2) (by omega) (by omega)) ?_
  rintro ⟨r, H5⟩ ⟨x3, e, hx3, d5, c5⟩
  simp only at e d5 c5
  subst e
  have w3 : IntKind.i64.wrap (1 + x3) = 1 + x3 := wrap_i64 (by omega) (by omega)
  simp [w3]
  refine Hx.mapp (n_ok (k := k + 6) d5 (by omega) (m := 100) (by omega) (by omega)) ?_
  rintro ⟨r, H6⟩ ⟨x4, e, hx4, d6, c6⟩
  simp only at e d6 c6
  subst e
  have w4 : IntKind.i64.wrap (1 + x4) = 1 + x4 := wrap_i64 (by omega) (by omega)
  simp [w4]
  refine Hx.mapp (n_ok (k := k + 6) d6 (by omega) (m := 20) (by omega) (by omega)) ?_
  rintro ⟨r, H7⟩ ⟨x5, e, hx5, d7, c7⟩
  simp only at e d7 c7
  subst e
  have w5 : IntKind.i64.wrap (90 + x5) = 90 + x5 := wrap_i64 (by omega) (by omega)
  have hp7 : p < H7.length := d7.lt
  have c27 : Chg [p] H2 H7 := c3.tr' (c4.tr' (c5.tr' (c6.tr' c7)))
  have hos7 : SO H7 (.slice a0 os.length c0 s0) os := (hv.chg c27 (fun i hi => by have := hb i hi; have := d1.lt; simp; omega)).sl
  obtain ⟨o, eo⟩ : ∃ o : Od, o = ⟨999, 1 + x1, x2, 1 + x3, 1 + x4, 90 + x5⟩ := ⟨_, rfl⟩
  by_cases h0 : 0 < os.length
  · obtain ⟨G, eG⟩ : ∃ G, G = H7 ++ [.cells o.cs .rw, .cells o.cs .rw] := ⟨_, rfl⟩
    have cG : Chg [] H7 G := by rw [eG]; exact .app _ _
    have rG5 : rowOf G H7.length = some o.cs := by rw [eG]; simp [Od.cs]
    have gG6 : G[H7.length + 1]? = some (.cells o.cs .rw) := by rw [eG]; simp
    have dG := d7.keep cG
    simp only [eo, Od.cs] at eG
    simp [w5, h0]
    rw [← eG]
    refine Hx.mapp (n_ok (k := k + 6) dG (by omega) (m := (os.length : Int)) (by omega) (by omega)) ?_
    rintro ⟨r, H8⟩ ⟨x6, e, hx6, d8, c8⟩
    simp only at e d8 c8
    subst e
    obtain ⟨j, rfl⟩ : ∃ j : Nat, x6 = j := ⟨x6.toNat, by omega⟩
    have hj : j < os.length := by omega
    have hj' : (j : Int) < os.length := by omega
    have hpv : ∀ i ∈ blk (AV.slice a0 os.length c0 s0), i ∉ [p] := fun i hi => by have := hb i hi; have := d1.lt; simp; omega
    have hos8 : SO H8 (.slice a0 os.length c0 s0) os := (((hv.chg c27 hpv).keep cG).chg c8 hpv).sl
    obtain ⟨b, ob, c', r, e, g0, gg⟩ := SO.all hos8 (by intro h; simp [h] at hj)
    injection e with z1 z2 z3 z4
    subst z1 z3 z4
    obtain ⟨g1, g2, -⟩ := gg j hj
    obtain ⟨pp, epp⟩ : ∃ pp, pp = os[j] := ⟨_, rfl⟩
    rw [← epp] at g2
    have gG8 := c8.get gG6 (by simp; omega)
    have rw8 : rowRw H8 0 (H7.length + 1) = some _ := rowRw_rw gG8
    have r58 := c8.row rG5 (by simp; omega)
    obtain ⟨G', eG'⟩ : ∃ G', G' = H8.set (H7.length + 1) (.cells pp.cs .rw) := ⟨_, rfl⟩
    have cG' : Chg [H7.length + 1] H8 G' := by rw [eG']; exact .set _ _ _
    have rG6' : rowOf G' (H7.length + 1) = some pp.cs := by rw [eG']; exact rowOf_self (lt_of_get gG8)
    have rG5' : rowOf G' H7.length = some o.cs := cG'.row r58 (by simp)
    have hbl : ∀ i ∈ blk (AV.slice (some (b, ob)) os.length c0 6), i ∉ [H7.length + 1] := fun i hi => by
      have := hv.lt i hi; have := c27.1; simp; omega
    have hosG' : SO G' (.slice (some (b, ob)) os.length c0 6) os := SL.chg hos8 cG' hbl
    have dG' := d8.chg cG' (by simp; omega)
    simp only [eo, Od.cs] at rw8 g2 eG'
    simp [hj', hj, g0, g1, g2, rw8]
    rw [← eG']
    refine hx_drawn dc4_9 fun X cX _ _ => ?_
    have r5 := cX.row rG5' (by simp)
    have r6 := cX.row rG6' (by simp)
    have hosX := (hosG').keep cX
    have ht := told_ok (k := k + 8) (o := o) (p := pp) hosX (by omega) (by omega)
    simp only [eo, Od.cs] at ht r5 r6
    simp [d4_9, r5, r6]
    refine Hx.mapp ht ?_
    rintro ⟨r, X1⟩ ⟨e, c1'⟩
    simp only at e c1'
    subst e
    have r51 := c1'.row r5 (by simp)
    have r61 := c1'.row r6 (by simp)
    simp [r51, r61]
    refine Hx.mapp (resting_ok (k := k + 8) ((dG'.keep cX).keep c1') (by omega) (by omega)) ?_
    rintro ⟨vr, X2⟩ ⟨os2, id2, hdr2, hlen2, hv2, d2', c2', hb2⟩
    simp only at hv2 d2' c2' hb2
    have r52 := c2'.row r51 (by simp; omega)
    have r62 := c2'.row r61 (by simp; omega)
    obtain ⟨a2, c2'', s2, e2⟩ := SO.form hv2.sl
    have ht2 := told_ok (k := k + 8) (o := o) (p := pp) hv2.sl (by have := restN_len os2 os2.length; omega) (by omega)
    rw [e2] at ht2 ⊢
    simp only [eo, Od.cs] at ht2
    simp [r52, r62]
    refine Hx.mapp ht2 ?_
    rintro ⟨r, X3⟩ ⟨e, c3'⟩
    simp only at e c3'
    subst e
    simp [r52, r62]
  · simp [w5, h0]
    obtain ⟨pp, epp⟩ : ∃ pp : Od, pp = ⟨999, 1 + x1, x2, 1 + x3, 1 + x4, 90 + x5⟩ := ⟨_, rfl⟩
    obtain ⟨G, eG⟩ : ∃ G, G = H7 ++ [.cells o.cs .rw, .cells pp.cs .rw] := ⟨_, rfl⟩
    have cG : Chg [] H7 G := by rw [eG]; exact .app _ _
    have rG5 : rowOf G H7.length = some o.cs := by rw [eG]; simp [Od.cs]
    have rG6 : rowOf G (H7.length + 1) = some pp.cs := by rw [eG]; simp [Od.cs]
    have hosG := hos7.keep cG
    have dG := d7.keep cG
    simp only [eo, epp, Od.cs] at eG
    rw [← eG]
    refine hx_drawn dc4_9 fun X cX _ _ => ?_
    have r5 := cX.row rG5 (by simp)
    have r6 := cX.row rG6 (by simp)
    have hosX := (hosG).keep cX
    have ht := told_ok (k := k + 8) (o := o) (p := pp) hosX (by omega) (by omega)
    simp only [eo, epp, Od.cs] at ht r5 r6
    simp [d4_9, r5, r6]
    refine Hx.mapp ht ?_
    rintro ⟨r, X1⟩ ⟨e, c1'⟩
    simp only at e c1'
    subst e
    have r51 := c1'.row r5 (by simp)
    have r61 := c1'.row r6 (by simp)
    simp [r51, r61]
    refine Hx.mapp (resting_ok (k := k + 8) ((dG.keep cX).keep c1') (by omega) (by omega)) ?_
    rintro ⟨vr, X2⟩ ⟨os2, id2, hdr2, hlen2, hv2, d2', c2', hb2⟩
    simp only at hv2 d2' c2' hb2
    have r52 := c2'.row r51 (by simp; omega)
    have r62 := c2'.row r61 (by simp; omega)
    obtain ⟨a2, c2'', s2, e2⟩ := SO.form hv2.sl
    have ht2 := told_ok (k := k + 8) (o := o) (p := pp) hv2.sl (by have := restN_len os2 os2.length; omega) (by omega)
    rw [e2] at ht2 ⊢
    simp only [eo, epp, Od.cs] at ht2
    simp [r52, r62]
    refine Hx.mapp ht2 ?_
    rintro ⟨r, X3⟩ ⟨e, c3'⟩
    simp only at e c3'
    subst e
    simp [r52, r62]
theorem matchDrawn_main (H : AH) (ass : List (List AV)) (hl : ass.length = [27].length) (ha : ∀ (i : Nat) t al, [27][i]? = some t → ass[i]? = some al → AR ap 6 H t al) :
    Hx (callA ap 2000 (.func 4 [] []) (List.zipWith (argA ap) [27] ass) 0 H) fun r => r.1 = .bool true := by
  match ass, hl with
  | [a0], _ =>
    obtain ⟨v, L, rfl, h0, hL⟩ := ar_u64s (ha 0 27 a0 rfl rfl) ty27 rfl ty48 rfl rfl
    simp only [List.zipWith_cons_cons, List.zipWith_nil_right, argA_one ty27 rfl]
    exact matchDrawn_ok h0 hL (by omega)
end
end Go.Proofs.Ytjpmddjibeecbaa.T.Qu
end
