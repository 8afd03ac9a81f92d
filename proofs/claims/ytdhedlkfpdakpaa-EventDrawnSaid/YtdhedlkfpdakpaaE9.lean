import Derived.Test.YtdhedlkfpdakpaaE6
import Derived.Test.YtdhedlkfpdakpaaE8
import Derived.Test.YtdhedlkfpdakpaaD7
/-! Events: the laws. -/
set_option linter.unusedVariables false
set_option linter.unusedSimpArgs false
set_option maxHeartbeats 4000000
set_option maxRecDepth 100000
namespace Go.Proofs.Ytdhedlkfpdakpaa.T
open Go Go.Ab
theorem ixor_u8 (x y : Int) : 0 ≤ ixor .u8 x y ∧ ixor .u8 x y < 256 := wrap_u8_in _
theorem mine_set8 {H : AH} {v : AV} {bs : List Int} (h : Mine H 1 v (u8s bs)) {i : Nat} (hi : i < bs.length) (x : Int) :
    ∃ b c l, v = .slice (some (b, 0)) bs.length c 1 ∧ H[b]? = some (.cells l .rw) ∧ i + 1 ≤ l.length ∧ l[i]? = some (.int .u8 (bs.getD i 0)) ∧ Mine (H.set b (.cells (l.take i ++ .int .u8 x :: l.drop (i + 1)) .rw)) 1 v (u8s (bs.set i x)) := by
  obtain ⟨a, c', s', e⟩ := h.sl.len8
  obtain ⟨b0, o0, c0, l0, e0, q0, q1⟩ := h.sl.get8 hi
  generalize hcs : u8s bs = cs at h
  cases h with
  | nil c s =>
    injection e with _ e _ _
    omega
  | row b n c r cs hz h1 h2 h3 h4 =>
    injection e with _ e _ _
    subst e
    injection e0 with z1 z2 z3 z4
    injection z1 with z1
    injection z1 with z1 z5
    subst z1 z5 z3
    rw [rowOf_rw h1] at q0
    have q0' := Option.some.inj q0
    subst q0'
    rw [Nat.zero_add] at q1
    have hr : i < r.length := by omega
    have hs := List.set_eq_take_append_cons_drop (l := r) (i := i) (a := AV.int .u8 x)
    rw [if_pos hr] at hs
    refine ⟨b, c, r, rfl, h1, by omega, q1, ?_⟩
    rw [← hs]
    refine .row b _ c _ _ hz (List.getElem?_set_self (lt_of_get h1)) (by simpa using h2) ?_ (fun k hk => by simpa using h4 k hk)
    rw [List.take_set, h3, ← hcs]
    simp [u8s, List.map_set]
section
variable {k : Nat} {H : AH} {v : AV}
theorem reads_ok {b : AV} {bs : List Int} (hb : B8 H b bs) (hB : Byt bs) (hl : bs.length ≤ 100000) : Hx (callA ap (k + 110) (.func 19 [] []) [b] 0 H) fun r => r.1 = .bool true ∧ Chg [] H r.2 := by
  rw [hx_go fn19 rfl, b19]
  obtain ⟨a, c, s, rfl⟩ := hb.len8
  simp
  refine Hx.mapp (read_ok hb hB hl) ?_
  rintro ⟨r, H2⟩ ⟨c2, hr⟩
  simp only at c2 hr
  obtain ⟨x, cx, e, hx⟩ : ∃ (x : E8) (cx : Int), r = .tuple [.agg x.cs, .int .i64 cx] ∧ (cx = 0 ∧ rt x = true ∧ putE x = bs ∨ cx = 13 ∧ x = bare 0 ∧ ∀ e, rt e = true → putE e ≠ bs) := by
    rcases hr with ⟨e, rfl, g1, g2⟩ | ⟨rfl, g1⟩
    · exact ⟨e, 0, rfl, .inl ⟨rfl, g1, g2⟩⟩
    · exact ⟨bare 0, 13, rfl, .inr ⟨rfl, rfl, g1⟩⟩
  subst e
  have key : ∀ (G : AH), Chg [] H2 G → Hx (callA ap (k + 109) (.func 36 [] []) [.slice a bs.length c s] 0 G) fun q => Chg [] G q.2 ∧ q.1 = .tuple [.agg x.cs, .int .i64 cx] := fun G cG => by
    refine (rread_ok (hb.keep (c2.tr cG)) hB hl).mono ?_
    rintro ⟨q, H3⟩ ⟨c3, hq⟩
    refine ⟨c3, ?_⟩
    simp only at hq ⊢
    rcases hx with ⟨rfl, h1, h2⟩ | ⟨rfl, rfl, h1⟩
    · rcases hq with ⟨y, rfl, g1, g2⟩ | ⟨rfl, g1⟩
      · rw [putE_inj g1 h1 (g2.trans h2.symm)]
      · exact absurd h2 (g1 x h1)
    · rcases hq with ⟨y, rfl, g1, g2⟩ | ⟨rfl, g1⟩
      · exact absurd g2 (h1 y g1)
      · rfl
  obtain ⟨G, eG⟩ : ∃ G, G = H2 ++ [.cells x.cs .rw] := ⟨_, rfl⟩
  have cG : Chg [] H2 G := by rw [eG]; exact .app _ _
  have r1 : G[H2.length]? = some (.cells x.cs .rw) := by rw [eG]; simp
  have key2 := key G cG
  simp only [E8.cs] at eG
  simp [E8.cs]
  rw [← eG]
  refine Hx.mapp key2 ?_
  rintro ⟨q, H3⟩ ⟨c3, e⟩
  simp only at c3 e
  subst e
  obtain ⟨G2, eG2⟩ : ∃ G2, G2 = H3 ++ [.cells x.cs .rw] := ⟨_, rfl⟩
  have cG2 : Chg [] H3 G2 := by rw [eG2]; exact .app _ _
  have r2 : G2[H3.length]? = some (.cells x.cs .rw) := by rw [eG2]; simp
  have q1 := rowOf_rw (cG2.get (c3.get r1 (by simp)) (by simp))
  have q2 := rowOf_rw r2
  simp only [E8.cs] at eG2 q1 q2
  simp [E8.cs]
  rw [← eG2]
  simp [q1, q2, eqV, eqF, eqC]
  exact (((c2.tr cG).tr c3).tr cG2)
theorem eventBack_ok {L : List Int} (h : SL H 1 v (u64s L)) (hL : ∀ x ∈ L, U64 x) : Hx (callA ap (k + 200) (.func 6 [] []) [v] 0 H) fun r => r.1 = .bool true := by
  rw [hx_go fn6 rfl, b6]
  simp [known_ok]
  refine Hx.mapp (of_ok h hL) ?_
  rintro ⟨r, H1⟩ ⟨e, dk, c1⟩
  simp only at e dk c1
  subst e
  simp
  refine Hx.mapp (config_ok dk (by omega)) ?_
  rintro ⟨r, H2⟩ ⟨v1, c, e, m1, hr1, f1, dk2, c2, k2⟩
  simp only at e m1 dk2 c2 k2
  subst e
  simp [Cf.cs]
  refine Hx.mapp (event_ok (c := c) dk2 (by omega) m1.sl (fun h => by have := k2 _ h; have := dk.lt; omega) hr1) ?_
  rintro ⟨r, H3⟩ ⟨ev, e, he, -, c3⟩
  simp only at e c3
  subst e
  obtain ⟨G, eG⟩ : ∃ G, G = H3 ++ [.cells ev.cs .rw] := ⟨_, rfl⟩
  have cG : Chg [] H3 G := by rw [eG]; exact .app _ _
  have r1 : G[H3.length]? = some (.cells ev.cs .rw) := by rw [eG]; simp
  have q1 := rowOf_rw r1
  simp only [E8.cs] at eG q1
  simp [E8.cs]
  rw [← eG]
  try simp [q1]
  refine Hx.mapp (put_ok (e := ev)) ?_
  rintro ⟨r, H4⟩ ⟨y, e, ny⟩
  simp only at e ny
  subst e
  simp only [he, if_true] at ny
  have hl := putE_len ev
  simp [he]
  refine Hx.mapp (read_ok ny.1 (putE_byt he) (by omega)) ?_
  rintro ⟨r, H5⟩ ⟨c5, hr⟩
  simp only at c5 hr
  rcases hr with ⟨x, rfl, g2, g4⟩ | ⟨rfl, hno⟩
  case inr => exact absurd rfl (hno ev he)
  obtain rfl := putE_inj g2 he g4
  obtain ⟨G2, eG2⟩ : ∃ G2, G2 = H5 ++ [.cells x.cs .rw] := ⟨_, rfl⟩
  have cG2 : Chg [] H5 G2 := by rw [eG2]; exact .app _ _
  have r2 : G2[H5.length]? = some (.cells x.cs .rw) := by rw [eG2]; simp
  simp only [E8.cs] at eG2
  simp [E8.cs]
  rw [← eG2]
  refine hx_drawn dc6_7 fun H6 c6 hl6 hd6 => ?_
  have p1 := rowOf_rw ((((ny.2.1.tr c5).tr cG2).tr c6).get r1 (by simp))
  have p2 := rowOf_rw (c6.get r2 (by simp))
  simp only [E8.cs] at p1 p2
  obtain ⟨b0, o0, c0, l0, e0, g0, g1⟩ := ((((ny.1.keep c5).keep cG2).keep c6)).get8 hl.1
  subst e0
  rw [Nat.add_zero] at g1
  have hk0 : (putE x).getD 0 0 = x.k := rfl
  have hkr := rt_kind he
  rw [hk0] at g1
  have wk : IntKind.i64.wrap x.k = x.k := wrap_i64 (by omega) (by omega)
  have hp2 : (0 : Int) < ((putE x).length : Int) := by omega
  simp [d6_7, p1, p2, eqV, eqF, eqC, hl.1, hp2, g0, g1, wk]
theorem eventDrawn_ok {L : List Int} {fl x : Int} (h : SL H 1 v (u64s L)) (hL : ∀ x ∈ L, U64 x) (hf : 0 ≤ fl ∧ fl < 256) : Hx (callA ap (k + 200) (.func 4 [] []) [v, .int .u8 fl, .int .i64 x] 0 H) fun r => r.1 = .bool true := by
  rw [hx_go fn4 rfl, b4]
  simp [known_ok]
  refine Hx.mapp (of_ok h hL) ?_
  rintro ⟨r, H1⟩ ⟨e, dk, c1⟩
  simp only at e dk c1
  subst e
  simp
  refine Hx.mapp (config_ok dk (by omega)) ?_
  rintro ⟨r, H2⟩ ⟨v1, c, e, m1, hr1, f1, dk2, c2, k2⟩
  simp only at e m1 dk2 c2 k2
  subst e
  simp [Cf.cs]
  refine Hx.mapp (event_ok (c := c) dk2 (by omega) m1.sl (fun h => by have := k2 _ h; have := dk.lt; omega) hr1) ?_
  rintro ⟨r, H3⟩ ⟨ev, e, he, -, c3⟩
  simp only at e c3
  subst e
  obtain ⟨G, eG⟩ : ∃ G, G = H3 ++ [.cells ev.cs .rw] := ⟨_, rfl⟩
  have cG : Chg [] H3 G := by rw [eG]; exact .app _ _
  have r1 : G[H3.length]? = some (.cells ev.cs .rw) := by rw [eG]; simp
  have q1 := rowOf_rw r1
  simp only [E8.cs] at eG q1
  simp [E8.cs]
  rw [← eG]
  try simp [q1]
  refine Hx.mapp (eventPuts_ok (e := ev) (n := ev.k)) ?_
  rintro ⟨r, H4⟩ ⟨e, c4⟩
  simp only at e c4
  subst e
  have q4 := rowOf_rw (c4.get r1 (by simp))
  simp only [E8.cs] at q4
  simp [q4]
  refine Hx.mapp (right_ok (e := ev)) ?_
  rintro ⟨r, H5⟩ ⟨e, c5⟩
  simp only at e c5
  subst e
  have r5 := (c4.tr c5).get r1 (by simp)
  have q5 := rowRw_rw r5
  have k5 : ∀ l, rowOf (H5.set H3.length (.cells l .rw)) H3.length = some l := fun l => rowOf_self (lt_of_get r5)
  simp only [E8.cs] at q5
  obtain ⟨q, hq⟩ : ∃ q, fl.tmod 8 = q := ⟨_, rfl⟩
  have fin : ∀ (E : E8) (G : AH), Hx (callA ap (k + 199) (.func 3 [] []) [.agg E.cs, .int .i64 x] 0 G) fun r => r.1 = .bool true := fun E G => (eventPuts_ok (k := k + 99) (e := E)).mono fun r h => h.1
  by_cases n0 : q = 0
  · simp [he, hq, n0, q5, k5]
    refine Hx.mapp (fin { ev with k := x } _) ?_
    rintro ⟨r, H6⟩ e
    simp only at e
    subst e
    simp
  by_cases n1 : q = 1
  · simp [he, hq, n0, n1, q5, k5]
    refine Hx.mapp (fin { ev with m := x } _) ?_
    rintro ⟨r, H6⟩ e
    simp only at e
    subst e
    simp
  by_cases n2 : q = 2
  · simp [he, hq, n0, n1, n2, q5, k5]
    refine Hx.mapp (fin { ev with a := x } _) ?_
    rintro ⟨r, H6⟩ e
    simp only at e
    subst e
    simp
  by_cases n3 : q = 3
  · simp [he, hq, n0, n1, n2, n3, q5, k5]
    refine Hx.mapp (fin { ev with i := x } _) ?_
    rintro ⟨r, H6⟩ e
    simp only at e
    subst e
    simp
  by_cases n4 : q = 4
  · simp [he, hq, n0, n1, n2, n3, n4, q5, k5]
    refine Hx.mapp (fin { ev with s := x } _) ?_
    rintro ⟨r, H6⟩ e
    simp only at e
    subst e
    simp
  by_cases n5 : q = 5
  · simp [he, hq, n0, n1, n2, n3, n4, n5, q5, k5]
    refine Hx.mapp (fin { ev with d := x } _) ?_
    rintro ⟨r, H6⟩ e
    simp only at e
    subst e
    simp
  by_cases n6 : q = 6
  · simp [he, hq, n0, n1, n2, n3, n4, n5, n6, q5, k5]
    refine Hx.mapp (fin { ev with q := x } _) ?_
    rintro ⟨r, H6⟩ e
    simp only at e
    subst e
    simp
  simp [he, hq, n0, n1, n2, n3, n4, n5, n6, q5, k5]
  refine Hx.mapp (fin { ev with p := x } _) ?_
  rintro ⟨r, H6⟩ e
  simp only at e
  subst e
  simp
theorem eventSpoilt_ok {L : List Int} {at_ by_ how : Int} (h : SL H 1 v (u64s L)) (hL : ∀ x ∈ L, U64 x) (ha : 0 ≤ at_ ∧ at_ < 256) (hb : 0 ≤ by_ ∧ by_ < 256) (hh : 0 ≤ how ∧ how < 256) :
    Hx (callA ap (k + 200) (.func 7 [] []) [v, .int .u8 at_, .int .u8 by_, .int .u8 how] 0 H) fun r => r.1 = .bool true := by
  rw [hx_go fn7 rfl, b7]
  simp [known_ok]
  refine Hx.mapp (of_ok h hL) ?_
  rintro ⟨r, H1⟩ ⟨e, dk, c1⟩
  simp only at e dk c1
  subst e
  simp
  refine Hx.mapp (config_ok dk (by omega)) ?_
  rintro ⟨r, H2⟩ ⟨v1, c, e, m1, hr1, f1, dk2, c2, k2⟩
  simp only at e m1 dk2 c2 k2
  subst e
  simp [Cf.cs]
  refine Hx.mapp (event_ok (c := c) dk2 (by omega) m1.sl (fun h => by have := k2 _ h; have := dk.lt; omega) hr1) ?_
  rintro ⟨r, H3⟩ ⟨ev, e, he, -, c3⟩
  simp only at e c3
  subst e
  simp [E8.cs]
  refine Hx.mapp (put_ok (e := ev)) ?_
  rintro ⟨r, H5⟩ ⟨y, e, ny⟩
  simp only at e ny
  subst e
  simp only [he, if_true] at ny
  have hBp := putE_byt he
  have hpl := (putE_len ev).2
  have hpp := (putE_len ev).1
  obtain ⟨pb, hpb⟩ : ∃ pb, pb = putE ev := ⟨_, rfl⟩
  rw [← hpb] at ny hBp hpl hpp
  have nb := ny.1
  obtain ⟨ya, yc, ys, rfl⟩ := nb.len8
  have hp0 : ¬ (pb.length : Int) = 0 := by omega
  obtain ⟨i, hi, hil⟩ : ∃ i : Nat, at_.tmod (pb.length : Int) = i ∧ i < pb.length := by
    have a1 := Int.emod_nonneg at_ hp0
    have a2 := Int.emod_lt_of_pos at_ (b := (pb.length : Int)) (by omega)
    rw [Int.tmod_eq_emod_of_nonneg ha.1]
    exact ⟨(at_ % (pb.length : Int)).toNat, by omega, by omega⟩
  have wa : IntKind.i64.wrap at_ = at_ := wrap_i64 (by omega) (by omega)
  have ow : Mine (H5 ++ [.cells [] .rw]) 1 (.slice (some (H5.length, 0)) 0 (some 0) 1) [] := .row _ 0 _ [] _ Nat.one_pos (by simp) (by simp) (by simp) (by simp)
  have hpz : ¬ pb = [] := fun e => by rw [e] at hpp; simp at hpp
  simp [he, hp0, hpz, hi, wa]
  refine Hx.mapp (ow.append (nb.keep (.app _ _)) Nat.one_pos Nat.one_pos u8s_one (by simp; unfold room; omega)) ?_
  rintro ⟨w, H6⟩ ⟨m6, c7, k6⟩
  simp only [List.nil_append] at m6 c7 k6
  have n6 : New8 H5 H6 w pb := ⟨m6, (Chg.app _ _).trans c7 (by simp), fun i hi => by rcases k6 i hi with h | h <;> simp at h <;> omega⟩
  have nb6 := nb.keep n6.2.1
  have c06 : Chg [] H5 H6 := n6.2.1
  have hi' : (i : Int) < (pb.length : Int) := by omega
  by_cases h0 : how.tmod 3 = 0
  · obtain ⟨b, cc, l, e, p1, p2, p3, p4⟩ := mine_set8 n6.1 hil (ixor .u8 (pb.getD i 0) by_)
    subst e
    have p1' := rowOf_rw p1
    have p1'' := rowRw_rw p1
    generalize hy : ixor .u8 (pb.getD i 0) by_ = y0 at p4
    generalize pb.getD i 0 = pv at p3 hy
    have hy0 : 0 ≤ y0 ∧ y0 < 256 := by rw [← hy]; exact ixor_u8 _ _
    simp [h0, hil, hi', p1', p1'', p3, hy, p2]
    have ns : New8 H5 (H6.set b (.cells (l.take i ++ .int .u8 y0 :: l.drop (i + 1)) .rw)) _ (pb.set i y0) := n6.to p4 (.set _ _ _) (by simp)
    have hBs : Byt (pb.set i y0) := fun x hx => by
      rcases List.mem_or_eq_of_mem_set hx with hx | rfl
      · exact hBp x hx
      · exact hy0
    generalize H6.set b (.cells (l.take i ++ .int .u8 y0 :: l.drop (i + 1)) .rw) = H7 at ns
    have hsl : (pb.set i y0).length ≤ 400 := by simp; omega
    generalize hgs : pb.set i y0 = sb at *
    have hB1 := hBs
    try simp
    have cs := ns.2.1
    refine Hx.mapp (read_ok ns.1.sl hBs (by omega)) ?_
    rintro ⟨r, H8⟩ ⟨c8, hr⟩
    simp only at c8 hr
    rcases hr with ⟨x, rfl, g2, g4⟩ | ⟨rfl, -⟩
    · obtain ⟨G8, e8⟩ : ∃ G, G = H8 ++ [.cells x.cs .rw] := ⟨_, rfl⟩
      have c9 : Chg [] H8 G8 := by rw [e8]; exact .app _ _
      have r9 : G8[H8.length]? = some (.cells x.cs .rw) := by rw [e8]; simp
      have q9 := rowOf_rw r9
      simp only [E8.cs] at e8 q9
      simp [E8.cs]
      rw [← e8]
      try simp [q9]
      refine Hx.mapp (put_ok (e := x)) ?_
      rintro ⟨r, H10⟩ ⟨y, e, ny⟩
      simp only at e ny
      subst e
      simp only [g2, if_true] at ny
      have t1 := toStr_b8 ny.1
      have t2 := toStr_b8 (((ns.1.sl.keep c8).keep c9).keep ny.2.1)
      have t3 := strN_beq (putE_byt g2) hBs
      rw [g4] at t1
      simp [g2, t1, t2]
      refine Hx.mapp (reads_ok (((ns.1.sl.keep c8).keep c9).keep ny.2.1) hBs (by omega)) ?_
      rintro ⟨r, H11⟩ ⟨e, -⟩
      simp only at e
      subst e
      simp
    · simp [E8.cs, bare]
      refine Hx.mapp (reads_ok ((ns.1.sl.keep c8).keep (.app _ _)) hBs (by omega)) ?_
      rintro ⟨r, H11⟩ ⟨e, -⟩
      simp only at e
      subst e
      simp
  by_cases h1 : how.tmod 3 = 1
  · have w1 : IntKind.i64.wrap ((i : Int) + 1) = ((i + 1 : Nat) : Int) := by rw [wrap_i64 (by omega) (by omega)]; omega
    obtain ⟨w6a, w6c, w6s, rfl⟩ := n6.1.sl.len8
    simp [h0, h1]
    refine hx_drawn dc7_14 fun H7 c8 hl7 hd7 => ?_
    obtain ⟨u1, a1, mm1, k1⟩ := (n6.1.keep c8).cut8 (m := i) (high := some (.int .i64 i)) (by omega) (by simp [highIs])
    obtain ⟨u2, a2, s2, k2, -⟩ := (n6.1.keep c8).sl.cut8 (low := some (.int .i64 ((i + 1 : Nat) : Int))) (high := none) (lo := i + 1) (hi := pb.length) (by omega) (Nat.le_refl _) (by simp [lowIs]) (by simp [highIs])
    rw [List.take_length] at s2
    rw [show ((i + 1 : Nat) : Int) = (i : Int) + 1 by omega] at a2 w1
    simp [d7_14, a1, w1, a2]
    refine Hx.mapp (mm1.append s2 Nat.one_pos Nat.one_pos u8s_one (by simp; unfold room; omega)) ?_
    rintro ⟨w2, H8⟩ ⟨m8, c9, k8⟩
    simp only at m8 c9 k8
    rw [← u8s_app] at m8
    simp
    have ns : New8 H5 H8 w2 (pb.take i ++ pb.drop (i + 1)) := (n6.keep c8).to m8 (c9.mono fun x hx => .inl (k1 x hx)) (fun x hx => (k8 x hx).imp (k1 x) id)
    have hBs : Byt (pb.take i ++ pb.drop (i + 1)) := (hBp.take i).app (hBp.drop _)
    have hsl : (pb.take i ++ pb.drop (i + 1)).length ≤ 400 := by simp; omega
    generalize hgs : pb.take i ++ pb.drop (i + 1) = sb at *
    have hB1 := hBs
    obtain ⟨sa, sc, ss_, rfl⟩ := ns.1.sl.len8
    try simp
    have cs := ns.2.1
    refine Hx.mapp (read_ok ns.1.sl hBs (by omega)) ?_
    rintro ⟨r, H9⟩ ⟨c8, hr⟩
    simp only at c8 hr
    rcases hr with ⟨x, rfl, g2, g4⟩ | ⟨rfl, -⟩
    · obtain ⟨GG, e8⟩ : ∃ G, G = H9 ++ [.cells x.cs .rw] := ⟨_, rfl⟩
      have c9 : Chg [] H9 GG := by rw [e8]; exact .app _ _
      have r9 : GG[H9.length]? = some (.cells x.cs .rw) := by rw [e8]; simp
      have q9 := rowOf_rw r9
      simp only [E8.cs] at e8 q9
      simp [E8.cs]
      rw [← e8]
      try simp [q9]
      refine Hx.mapp (put_ok (e := x)) ?_
      rintro ⟨r, H10⟩ ⟨y, e, ny⟩
      simp only at e ny
      subst e
      simp only [g2, if_true] at ny
      have t1 := toStr_b8 ny.1
      have t2 := toStr_b8 (((ns.1.sl.keep c8).keep c9).keep ny.2.1)
      have t3 := strN_beq (putE_byt g2) hBs
      rw [g4] at t1
      simp [g2, t1, t2]
      refine Hx.mapp (reads_ok (((ns.1.sl.keep c8).keep c9).keep ny.2.1) hBs (by omega)) ?_
      rintro ⟨r, H11⟩ ⟨e, -⟩
      simp only at e
      subst e
      simp
    · simp [E8.cs, bare]
      refine Hx.mapp (reads_ok ((ns.1.sl.keep c8).keep (.app _ _)) hBs (by omega)) ?_
      rintro ⟨r, H11⟩ ⟨e, -⟩
      simp only at e
      subst e
      simp
  · simp [h0, h1]
    refine hx_drawn dc7_10 fun H7 c8 hl7 hd7 => ?_
    have dd0 : isDeadB H7[H6.length]? = true := by have := hd7 0 (by decide); rw [Nat.add_zero] at this; rw [this]; rfl
    have d6 := hd7 6 (by decide)
    have d0 : H7[H6.length]? = some dead0 := by have := hd7 0 (by decide); rwa [Nat.add_zero] at this
    obtain ⟨u1, a1, s1, k1, -⟩ := nb6.cut8 (low := none) (high := some (.int .i64 i)) (lo := 0) (hi := i) (by omega) (by omega) (by simp [lowIs]) (by simp [highIs])
    obtain ⟨u2, a2, s2, k2, -⟩ := nb6.cut8 (low := some (.int .i64 i)) (high := none) (lo := i) (hi := pb.length) (by omega) (Nat.le_refl _) (by simp [lowIs]) (by simp [highIs])
    rw [List.take_length] at s2
    rw [List.drop_zero] at s1
    have b1 : ∀ X, Chg [] H6 X → aslice X 1 (.slice ya pb.length yc ys) none (some (.int .i64 i)) none = some u1 := fun X c => aslice_chg c (by simp) a1
    have b2 : ∀ X, Chg [] H6 X → aslice X 1 (.slice ya pb.length yc ys) (some (.int .i64 i)) none none = some u2 := fun X c => aslice_chg c (by simp) a2
    obtain ⟨G7, eG7⟩ : ∃ G, G = H7.set H6.length (.cells [] .rw) := ⟨_, rfl⟩
    have cG7 : Chg [] H6 G7 := by rw [eG7]; exact c8.set_new (by omega) _
    have ow7 : Mine G7 1 (.slice (some (H6.length, 0)) 0 (some 0) 1) [] := .row _ 0 _ [] _ Nat.one_pos (by rw [eG7]; exact List.getElem?_set_self (lt_of_get d0)) (by simp) (by simp) (by simp)
    have n7 : New8 H6 G7 (.slice (some (H6.length, 0)) 0 (some 0) 1) [] := ⟨ow7, cG7, by simp⟩
    have d6' : G7[H6.length + 6]? = some dead0 := by rw [eG7]; exact (Chg.set H7 H6.length _).get d6 (by simp)
    have dd6 : isDeadB G7[H6.length + 6]? = true := by rw [d6']; rfl
    simp [d7_10, dd0, b1 _ c8, b2 _ c8]
    rw [← eG7]
    simp [b1 _ cG7, b2 _ cG7]
    refine Hx.mapp (n7.1.append (s1.keep cG7) Nat.one_pos Nat.one_pos u8s_one (by simp; unfold room; omega)) ?_
    rintro ⟨w2, H8⟩ ⟨m8, c9, k8⟩
    simp only [List.nil_append] at m8 c9 k8
    have d68 : H8[H6.length + 6]? = some dead0 := c9.get d6' (by simp)
    have dd68 : isDeadB H8[H6.length + 6]? = true := by rw [d68]; rfl
    have hlt7 := lt_of_get d6'
    obtain ⟨G8, eG8⟩ : ∃ G, G = H8.set (H6.length + 6) (.cells [.int .u8 by_] .rw) := ⟨_, rfl⟩
    have n8 : New8 H6 H8 w2 (pb.take i) := n7.to m8 c9 k8
    have hnw : H6.length + 6 ∉ blk w2 := fun h => by
      rcases k8 _ h with h | h
      · simp at h
      · omega
    have cG8 : Chg [] H6 G8 := by rw [eG8]; exact n8.2.1.set_new (by omega) _
    have n8' : New8 H6 G8 w2 (pb.take i) := ⟨by rw [eG8]; exact n8.1.chg (.set _ _ _) (fun x hx => by simp; exact fun e => hnw (e ▸ hx)), cG8, n8.2.2⟩
    have sx : B8 G8 (.slice (some (H6.length + 6, 0)) 1 (some 1) 1) [by_] := by
      rw [eG8]
      exact SL.mk Nat.one_pos (rowOf_self (lt_of_get d68)) (by simp) (by simp)
    simp [dd6, dd68]
    rw [← eG8]
    refine Hx.mapp (n8'.1.append sx Nat.one_pos Nat.one_pos u8s_one (by simp; unfold room; omega)) ?_
    rintro ⟨w3, H9⟩ ⟨m9, c10, k9⟩
    simp only at m9 c10 k9
    rw [← u8s_app] at m9
    have n9 : New8 H6 H9 w3 (pb.take i ++ [by_]) := n8'.to m9 c10 k9
    simp
    refine Hx.mapp (n9.1.append (s2.keep n9.2.1) Nat.one_pos Nat.one_pos u8s_one (by simp; unfold room; omega)) ?_
    rintro ⟨w4, H10⟩ ⟨m10, c11, k10⟩
    simp only at m10 c11 k10
    rw [← u8s_app] at m10
    have ns : New8 H6 H10 w4 (pb.take i ++ [by_] ++ pb.drop i) := n9.to m10 c11 k10
    simp [b2 _ cG8, b2 _ n9.2.1]
    have hBs : Byt (pb.take i ++ [by_] ++ pb.drop i) := ((hBp.take i).app (fun x hx => by simp at hx; subst hx; exact hb)).app (hBp.drop _)
    have hsl : (pb.take i ++ [by_] ++ pb.drop i).length ≤ 400 := by simp; omega
    generalize hgs : pb.take i ++ [by_] ++ pb.drop i = sb at *
    have hB1 := hBs
    obtain ⟨sa, sc, ss_, rfl⟩ := ns.1.sl.len8
    try simp
    have cs := ns.2.1
    refine Hx.mapp (read_ok ns.1.sl hBs (by omega)) ?_
    rintro ⟨r, H12⟩ ⟨c8, hr⟩
    simp only at c8 hr
    rcases hr with ⟨x, rfl, g2, g4⟩ | ⟨rfl, -⟩
    · obtain ⟨GG, e8⟩ : ∃ G, G = H12 ++ [.cells x.cs .rw] := ⟨_, rfl⟩
      have c9 : Chg [] H12 GG := by rw [e8]; exact .app _ _
      have r9 : GG[H12.length]? = some (.cells x.cs .rw) := by rw [e8]; simp
      have q9 := rowOf_rw r9
      simp only [E8.cs] at e8 q9
      simp [E8.cs]
      rw [← e8]
      try simp [q9]
      refine Hx.mapp (put_ok (e := x)) ?_
      rintro ⟨r, H13⟩ ⟨y, e, ny⟩
      simp only at e ny
      subst e
      simp only [g2, if_true] at ny
      have t1 := toStr_b8 ny.1
      have t2 := toStr_b8 (((ns.1.sl.keep c8).keep c9).keep ny.2.1)
      have t3 := strN_beq (putE_byt g2) hBs
      rw [g4] at t1
      simp [g2, t1, t2]
      refine Hx.mapp (reads_ok (((ns.1.sl.keep c8).keep c9).keep ny.2.1) hBs (by omega)) ?_
      rintro ⟨r, H11⟩ ⟨e, -⟩
      simp only at e
      subst e
      simp
    · simp [E8.cs, bare]
      refine Hx.mapp (reads_ok ((ns.1.sl.keep c8).keep (.app _ _)) hBs (by omega)) ?_
      rintro ⟨r, H11⟩ ⟨e, -⟩
      simp only at e
      subst e
      simp
end
theorem ar_e8 {m : Nat} {H : AH} {al : List AV} (h : AR ap m H 23 al) : ∃ e : E8, al = e.cs := by
  obtain ⟨parts, m', rfl, hl, hp⟩ := ar_struct h ty23 rfl
  match parts, hl with
  | [p0, p1, p2, p3, p4, p5, p6, p7], _ =>
    obtain ⟨z0, rfl, -⟩ := ar_int (hp 0 (0, 3) p0 rfl rfl) ty3 rfl
    obtain ⟨z1, rfl, -⟩ := ar_int (hp 1 (1, 3) p1 rfl rfl) ty3 rfl
    obtain ⟨z2, rfl, -⟩ := ar_int (hp 2 (2, 3) p2 rfl rfl) ty3 rfl
    obtain ⟨z3, rfl, -⟩ := ar_int (hp 3 (3, 3) p3 rfl rfl) ty3 rfl
    obtain ⟨z4, rfl, -⟩ := ar_int (hp 4 (4, 3) p4 rfl rfl) ty3 rfl
    obtain ⟨z5, rfl, -⟩ := ar_int (hp 5 (5, 2) p5 rfl rfl) ty2 rfl
    obtain ⟨z6, rfl, -⟩ := ar_int (hp 6 (6, 2) p6 rfl rfl) ty2 rfl
    obtain ⟨z7, rfl, -⟩ := ar_int (hp 7 (7, 2) p7 rfl rfl) ty2 rfl
    exact ⟨⟨z0, z1, z2, z3, z4, z5, z6, z7⟩, rfl⟩
theorem argA_agg {t : Nat} {ti : TI} {al : List AV} (ht : ap.ty t = some ti) (h : ti.td.isAgg = true) : argA ap t al = .agg al := by
  unfold argA
  rw [ht]
  exact if_pos h
theorem eventPuts_main (H : AH) (ass : List (List AV)) (hl : ass.length = [23, 3].length) (ha : ∀ (i : Nat) t al, [23, 3][i]? = some t → ass[i]? = some al → AR ap 6 H t al) :
    Hx (callA ap 2000 (.func 3 [] []) (List.zipWith (argA ap) [23, 3] ass) 0 H) fun r => r.1 = .bool true := by
  match ass, hl with
  | [a0, a1], _ =>
    obtain ⟨e, rfl⟩ := ar_e8 (ha 0 23 a0 rfl rfl)
    obtain ⟨n, rfl, -⟩ := ar_int (ha 1 3 a1 rfl rfl) ty3 rfl
    simp only [List.zipWith_cons_cons, List.zipWith_nil_right, argA_agg ty23 rfl, argA_one ty3 rfl, tag_eq]
    exact (eventPuts_ok (k := 1900)).mono fun r h => h.1
theorem eventNumbers_main (H : AH) (ass : List (List AV)) (hl : ass.length = [25, 2].length) (ha : ∀ (i : Nat) t al, [25, 2][i]? = some t → ass[i]? = some al → AR ap 6 H t al) :
    Hx (callA ap 2000 (.func 8 [] []) (List.zipWith (argA ap) [25, 2] ass) 0 H) fun r => r.1 = .bool true := by
  match ass, hl with
  | [a0, a1], _ =>
    obtain ⟨v, bs, rfl, h0, hB⟩ := ar_bytes (ha 0 25 a0 rfl rfl) ty25 rfl ty5 rfl rfl
    obtain ⟨n, rfl, w⟩ := ar_int (ha 1 2 a1 rfl rfl) ty2 rfl
    simp only [List.zipWith_cons_cons, List.zipWith_nil_right, argA_one ty25 rfl, argA_one ty2 rfl, tag_eq]
    exact eventNumbers_ok (k := 1900) h0 hB (wf_i64' w)
theorem eventBack_main (H : AH) (ass : List (List AV)) (hl : ass.length = [32].length) (ha : ∀ (i : Nat) t al, [32][i]? = some t → ass[i]? = some al → AR ap 6 H t al) :
    Hx (callA ap 2000 (.func 6 [] []) (List.zipWith (argA ap) [32] ass) 0 H) fun r => r.1 = .bool true := by
  match ass, hl with
  | [a0], _ =>
    obtain ⟨v, L, rfl, h0, hL⟩ := ar_u64s (ha 0 32 a0 rfl rfl) ty32 rfl ty64 rfl rfl
    simp only [List.zipWith_cons_cons, List.zipWith_nil_right, argA_one ty32 rfl, tag_eq]
    exact eventBack_ok (k := 1800) h0 hL
theorem eventDrawn_main (H : AH) (ass : List (List AV)) (hl : ass.length = [32, 5, 2].length) (ha : ∀ (i : Nat) t al, [32, 5, 2][i]? = some t → ass[i]? = some al → AR ap 6 H t al) :
    Hx (callA ap 2000 (.func 4 [] []) (List.zipWith (argA ap) [32, 5, 2] ass) 0 H) fun r => r.1 = .bool true := by
  match ass, hl with
  | [a0, a1, a2], _ =>
    obtain ⟨v, L, rfl, h0, hL⟩ := ar_u64s (ha 0 32 a0 rfl rfl) ty32 rfl ty64 rfl rfl
    obtain ⟨x1, rfl, w1⟩ := ar_int (ha 1 5 a1 rfl rfl) ty5 rfl
    obtain ⟨x2, rfl, w2⟩ := ar_int (ha 2 2 a2 rfl rfl) ty2 rfl
    simp only [List.zipWith_cons_cons, List.zipWith_nil_right, argA_one ty32 rfl, argA_one ty5 rfl, argA_one ty2 rfl, tag_eq]
    exact eventDrawn_ok (k := 1800) h0 hL (wf_u8 w1)
theorem eventSpoilt_main (H : AH) (ass : List (List AV)) (hl : ass.length = [32, 5, 5, 5].length) (ha : ∀ (i : Nat) t al, [32, 5, 5, 5][i]? = some t → ass[i]? = some al → AR ap 6 H t al) :
    Hx (callA ap 2000 (.func 7 [] []) (List.zipWith (argA ap) [32, 5, 5, 5] ass) 0 H) fun r => r.1 = .bool true := by
  match ass, hl with
  | [a0, a1, a2, a3], _ =>
    obtain ⟨v, L, rfl, h0, hL⟩ := ar_u64s (ha 0 32 a0 rfl rfl) ty32 rfl ty64 rfl rfl
    obtain ⟨x1, rfl, w1⟩ := ar_int (ha 1 5 a1 rfl rfl) ty5 rfl
    obtain ⟨x2, rfl, w2⟩ := ar_int (ha 2 5 a2 rfl rfl) ty5 rfl
    obtain ⟨x3, rfl, w3⟩ := ar_int (ha 3 5 a3 rfl rfl) ty5 rfl
    simp only [List.zipWith_cons_cons, List.zipWith_nil_right, argA_one ty32 rfl, argA_one ty5 rfl, tag_eq]
    exact eventSpoilt_ok (k := 1800) h0 hL (wf_u8 w1) (wf_u8 w2) (wf_u8 w3)
end Go.Proofs.Ytdhedlkfpdakpaa.T
