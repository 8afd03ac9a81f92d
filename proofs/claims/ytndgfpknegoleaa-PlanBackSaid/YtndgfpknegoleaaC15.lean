import Derived.Test.YtndgfpknegoleaaC14
/-! PlanBack. -/
set_option linter.unusedVariables false
set_option linter.unusedSimpArgs false
set_option maxHeartbeats 4000000
set_option maxRecDepth 100000
namespace Go.Proofs.Ytndgfpknegoleaa.T
open Go Go.Ab
theorem ixor_u8 (x y : Int) : 0 ≤ ixor .u8 x y ∧ ixor .u8 x y < 256 := wrap_u8_in _
theorem mine_set8 {H : AH} {v : AV} {bs : List Int} (h : Mine H 1 v (u8s bs)) {i : Nat} (hi : i < bs.length) (x : Int) :
    ∃ b c l, v = .slice (some (b, 0)) bs.length c 1 ∧ H[b]? = some (.cells l .rw) ∧ i + 1 ≤ l.length ∧ l[i]? = some (.int .u8 (bs.getD i 0)) ∧ Mine (H.set b (.cells (l.take i ++ .int .u8 x :: l.drop (i + 1)) .rw)) 1 v (u8s (bs.set i x)) := by
  obtain ⟨a, c', s', e⟩ := h.sl.len8
  obtain ⟨b0, o0, c0, l0, e0, q0, q1⟩ := h.sl.get8 hi
  generalize hcs : u8s bs = cs at h
  cases h with
  | nil c s =>
    injection e with _ e _ _
    omega
  | row b n c r cs hz h1 h2 h3 h4 =>
    injection e with _ e _ _
    subst e
    injection e0 with z1 z2 z3 z4
    injection z1 with z1
    injection z1 with z1 z5
    subst z1 z5 z3
    rw [rowOf_rw h1] at q0
    have q0' := Option.some.inj q0
    subst q0'
    rw [Nat.zero_add] at q1
    have hr : i < r.length := by omega
    have hs := List.set_eq_take_append_cons_drop (l := r) (i := i) (a := AV.int .u8 x)
    rw [if_pos hr] at hs
    refine ⟨b, c, r, rfl, h1, by omega, q1, ?_⟩
    rw [← hs]
    refine .row b _ c _ _ hz (List.getElem?_set_self (lt_of_get h1)) (by simpa using h2) ?_ (fun k hk => by simpa using h4 k hk)
    rw [List.take_set, h3, ← hcs]
    simp [u8s, List.map_set]
section
variable {k : Nat} {H : AH} {v : AV}
theorem putB_pos (c : Cf) : 0 < (putB c).length := by
  unfold putB
  simp only [flat, List.cons_append, encs_cons, List.length_append]
  have := (enc_len c.ins.length).1
  omega
theorem planBack_ok {L : List Int} {at_ by_ how : Int} (h : SL H 1 v (u64s L)) (hL : ∀ x ∈ L, U64 x) (ha : 0 ≤ at_ ∧ at_ < 256) (hb : 0 ≤ by_ ∧ by_ < 256) (hh : 0 ≤ how ∧ how < 256) (hk : 1500 < k) :
    Hx (callA ap k (.func 6 [] []) [v, .int .u8 at_, .int .u8 by_, .int .u8 how] 0 H) fun r => r.1 = .bool true := by
  obtain ⟨k, rfl⟩ : ∃ k', k = k' + 60 := ⟨k - 60, by omega⟩
  rw [hx_call fn6 rfl]
  simp [f6, b6, known_ok]
  refine Hx.mapp (of_ok h hL) ?_
  rintro ⟨r, H1⟩ ⟨e, dk, c1⟩
  simp only at e dk c1
  subst e
  simp
  refine Hx.mapp (config_ok dk (by omega)) ?_
  rintro ⟨r, H2⟩ ⟨v1, c, e, m1, hr1, f1, -, -, -⟩
  simp only at e m1
  subst e
  replace m1 := m1.sl
  have o1 := SI.one m1
  have hrl := right_len hr1
  obtain ⟨G, eG⟩ : ∃ G, G = H2 ++ [.cells (c.cs v1) .rw] := ⟨_, rfl⟩
  have x2 : Chg [] H2 G := by rw [eG]; exact .app _ _
  have r1 : G[H2.length]? = some (.cells (c.cs v1) .rw) := by rw [eG]; simp
  replace m1 := m1.keep x2
  have q1 := rowOf_rw r1
  simp only [Cf.cs] at eG q1
  simp [Cf.cs, o1]
  rw [← eG]
  try simp [q1]
  refine Hx.mapp (put_ok (c := c) m1 (by omega) f1 (by omega)) ?_
  rintro ⟨r, H3⟩ ⟨y, e, ny⟩
  simp only at e ny
  subst e
  simp only [hr1, if_true] at ny
  have hBp := encs_byt (flat_i64 hr1 f1)
  have hpl := putB_len hr1
  have hpp := putB_pos c
  change Byt (putB c) at hBp
  simp [hr1]
  refine Hx.mapp (read_ok ny.1.sl hBp (by omega) (by omega)) ?_
  rintro ⟨r, H4⟩ ⟨c4, hr⟩
  simp only at c4 hr
  rcases hr with ⟨vd, d, rfl, g1, g2, g3, g4⟩ | ⟨rfl, hno⟩
  case inr => exact absurd rfl (hno c hr1 f1)
  obtain rfl := putB_inj g2 g3 hr1 f1 g4
  have od := SI.one g1
  obtain ⟨G4, e4⟩ : ∃ G, G = H4 ++ [.cells (d.cs vd) .rw] := ⟨_, rfl⟩
  have c5 : Chg [] H4 G4 := by rw [e4]; exact .app _ _
  have r5 : G4[H4.length]? = some (.cells (d.cs vd) .rw) := by rw [e4]; simp
  have q5 := rowOf_rw r5
  have q6 := rowOf_rw (((ny.2.1.tr c4).tr c5).get r1 (by simp))
  simp only [Cf.cs] at e4 q5 q6
  simp [Cf.cs, od]
  rw [← e4]
  simp [q5, q6]
  refine Hx.mapp (same_ok (a := d) (b := d) (m1.keep ((ny.2.1.tr c4).tr c5)) (g1.keep c5) (by omega) (by omega) (by omega)) ?_
  rintro ⟨r, H5⟩ ⟨e, c6⟩
  simp only at e c6
  subst e
  have nb := (((ny.1.sl.keep c4).keep c5).keep c6)
  obtain ⟨pb, hpb⟩ : ∃ pb, pb = putB d := ⟨_, rfl⟩
  rw [← hpb] at nb hBp hpl hpp
  obtain ⟨ya, yc, ys, rfl⟩ := nb.len8
  have hp0 : ¬ (pb.length : Int) = 0 := by omega
  obtain ⟨i, hi, hil⟩ : ∃ i : Nat, at_.tmod (pb.length : Int) = i ∧ i < pb.length := by
    have a1 := Int.emod_nonneg at_ hp0
    have a2 := Int.emod_lt_of_pos at_ (b := (pb.length : Int)) (by omega)
    rw [Int.tmod_eq_emod_of_nonneg ha.1]
    exact ⟨(at_ % (pb.length : Int)).toNat, by omega, by omega⟩
  have wa : IntKind.i64.wrap at_ = at_ := wrap_i64 (by omega) (by omega)
  have ow : Mine (H5 ++ [.cells [] .rw]) 1 (.slice (some (H5.length, 0)) 0 (some 0) 1) [] := .row _ 0 _ [] _ Nat.one_pos (by simp) (by simp) (by simp) (by simp)
  have hpz : ¬ pb = [] := fun e => by rw [e] at hpp; simp at hpp
  simp [hp0, hpz, hi, wa]
  refine Hx.mapp (ow.append (nb.keep (.app _ _)) Nat.one_pos Nat.one_pos u8s_one (by simp; unfold room; omega)) ?_
  rintro ⟨w, H6⟩ ⟨m6, c7, k6⟩
  simp only [List.nil_append] at m6 c7 k6
  have n6 : New8 H5 H6 w pb := ⟨m6, (Chg.app _ _).trans c7 (by simp), fun i hi => by rcases k6 i hi with h | h <;> simp at h <;> omega⟩
  have nb6 := nb.keep n6.2.1
  have c06 : Chg [] H5 H6 := n6.2.1
  have hi' : (i : Int) < (pb.length : Int) := by omega
  by_cases h0 : how.tmod 3 = 0
  · obtain ⟨b, cc, l, e, p1, p2, p3, p4⟩ := mine_set8 n6.1 hil (ixor .u8 (pb.getD i 0) by_)
    subst e
    have p1' := rowOf_rw p1
    have p1'' := rowRw_rw p1
    generalize hy : ixor .u8 (pb.getD i 0) by_ = y0 at p4
    generalize pb.getD i 0 = pv at p3 hy
    have hy0 : 0 ≤ y0 ∧ y0 < 256 := by rw [← hy]; exact ixor_u8 _ _
    simp [h0, hil, hi', p1', p1'', p3, hy, p2]
    have ns : New8 H5 (H6.set b (.cells (l.take i ++ .int .u8 y0 :: l.drop (i + 1)) .rw)) _ (pb.set i y0) := n6.to p4 (.set _ _ _) (by simp)
    have hBs : Byt (pb.set i y0) := fun x hx => by
      rcases List.mem_or_eq_of_mem_set hx with hx | rfl
      · exact hBp x hx
      · exact hy0
    generalize H6.set b (.cells (l.take i ++ .int .u8 y0 :: l.drop (i + 1)) .rw) = H7 at ns
    have hsl : (pb.set i y0).length ≤ 400 := by simp; omega
    generalize hgs : pb.set i y0 = sb at *
    have hB1 := hBs
    try simp
    have cs := ns.2.1
    refine Hx.mapp (read_ok ns.1.sl hBs (by omega) (by omega)) ?_
    rintro ⟨r, H8⟩ ⟨c8, hr⟩
    simp only at c8 hr
    rcases hr with ⟨vx, x, rfl, g1, g2, g3, g4⟩ | ⟨rfl, -⟩
    · have o1 := SI.one g1
      have hxl := right_len g2
      obtain ⟨G8, e8⟩ : ∃ G, G = H8 ++ [.cells (x.cs vx) .rw] := ⟨_, rfl⟩
      have c9 : Chg [] H8 G8 := by rw [e8]; exact .app _ _
      have r9 : G8[H8.length]? = some (.cells (x.cs vx) .rw) := by rw [e8]; simp
      have q9 := rowOf_rw r9
      simp only [Cf.cs] at e8 q9
      simp [Cf.cs, o1]
      rw [← e8]
      try simp [q9]
      refine Hx.mapp (put_ok (c := x) (g1.keep c9) (by omega) g3 (by omega)) ?_
      rintro ⟨r, H10⟩ ⟨y, e, ny⟩
      simp only at e ny
      subst e
      simp only [g2, if_true] at ny
      have t1 := toStr_b8 ny.1.sl
      have t2 := toStr_b8 (((ns.1.sl.keep c8).keep c9).keep ny.2.1)
      have t3 := strN_beq (encs_byt (flat_i64 g2 g3)) hBs
      rw [g4] at t1
      simp [g2, t1, t2]
      refine Hx.mapp (planReads_ok (((ns.1.sl.keep c8).keep c9).keep ny.2.1) hBs (by omega)) ?_
      rintro ⟨r, H11⟩ ⟨e, -⟩
      simp only at e
      subst e
      simp
    · simp [Cf.cs, Cf.zero]
      refine Hx.mapp (planReads_ok ((ns.1.sl.keep c8).keep (.app _ _)) hBs (by omega)) ?_
      rintro ⟨r, H11⟩ ⟨e, -⟩
      simp only at e
      subst e
      simp
  by_cases h1 : how.tmod 3 = 1
  · have w1 : IntKind.i64.wrap ((i : Int) + 1) = ((i + 1 : Nat) : Int) := by rw [wrap_i64 (by omega) (by omega)]; omega
    obtain ⟨w6a, w6c, w6s, rfl⟩ := n6.1.sl.len8
    simp [h0, h1]
    refine hx_drawn dc6_15 fun H7 c8 hl7 hd7 => ?_
    obtain ⟨u1, a1, mm1, k1⟩ := (n6.1.keep c8).cut8 (m := i) (high := some (.int .i64 i)) (by omega) (by simp [highIs])
    obtain ⟨u2, a2, s2, k2, -⟩ := (n6.1.keep c8).sl.cut8 (low := some (.int .i64 ((i + 1 : Nat) : Int))) (high := none) (lo := i + 1) (hi := pb.length) (by omega) (Nat.le_refl _) (by simp [lowIs]) (by simp [highIs])
    rw [List.take_length] at s2
    rw [show ((i + 1 : Nat) : Int) = (i : Int) + 1 by omega] at a2 w1
    simp [d6_15, a1, w1, a2]
    refine Hx.mapp (mm1.append s2 Nat.one_pos Nat.one_pos u8s_one (by simp; unfold room; omega)) ?_
    rintro ⟨w2, H8⟩ ⟨m8, c9, k8⟩
    simp only at m8 c9 k8
    rw [← u8s_app] at m8
    simp
    have ns : New8 H5 H8 w2 (pb.take i ++ pb.drop (i + 1)) := (n6.keep c8).to m8 (c9.mono fun x hx => .inl (k1 x hx)) (fun x hx => (k8 x hx).imp (k1 x) id)
    have hBs : Byt (pb.take i ++ pb.drop (i + 1)) := (hBp.take i).app (hBp.drop _)
    have hsl : (pb.take i ++ pb.drop (i + 1)).length ≤ 400 := by simp; omega
    generalize hgs : pb.take i ++ pb.drop (i + 1) = sb at *
    have hB1 := hBs
    obtain ⟨sa, sc, ss_, rfl⟩ := ns.1.sl.len8
    try simp
    have cs := ns.2.1
    refine Hx.mapp (read_ok ns.1.sl hBs (by omega) (by omega)) ?_
    rintro ⟨r, H9⟩ ⟨c8, hr⟩
    simp only at c8 hr
    rcases hr with ⟨vx, x, rfl, g1, g2, g3, g4⟩ | ⟨rfl, -⟩
    · have o1 := SI.one g1
      have hxl := right_len g2
      obtain ⟨GG, e8⟩ : ∃ G, G = H9 ++ [.cells (x.cs vx) .rw] := ⟨_, rfl⟩
      have c9 : Chg [] H9 GG := by rw [e8]; exact .app _ _
      have r9 : GG[H9.length]? = some (.cells (x.cs vx) .rw) := by rw [e8]; simp
      have q9 := rowOf_rw r9
      simp only [Cf.cs] at e8 q9
      simp [Cf.cs, o1]
      rw [← e8]
      try simp [q9]
      refine Hx.mapp (put_ok (c := x) (g1.keep c9) (by omega) g3 (by omega)) ?_
      rintro ⟨r, H10⟩ ⟨y, e, ny⟩
      simp only at e ny
      subst e
      simp only [g2, if_true] at ny
      have t1 := toStr_b8 ny.1.sl
      have t2 := toStr_b8 (((ns.1.sl.keep c8).keep c9).keep ny.2.1)
      have t3 := strN_beq (encs_byt (flat_i64 g2 g3)) hBs
      rw [g4] at t1
      simp [g2, t1, t2]
      refine Hx.mapp (planReads_ok (((ns.1.sl.keep c8).keep c9).keep ny.2.1) hBs (by omega)) ?_
      rintro ⟨r, H11⟩ ⟨e, -⟩
      simp only at e
      subst e
      simp
    · simp [Cf.cs, Cf.zero]
      refine Hx.mapp (planReads_ok ((ns.1.sl.keep c8).keep (.app _ _)) hBs (by omega)) ?_
      rintro ⟨r, H11⟩ ⟨e, -⟩
      simp only at e
      subst e
      simp
  · simp [h0, h1]
    refine hx_drawn dc6_11 fun H7 c8 hl7 hd7 => ?_
    have dd0 : isDeadB H7[H6.length]? = true := by have := hd7 0 (by decide); rw [Nat.add_zero] at this; rw [this]; rfl
    have d6 := hd7 6 (by decide)
    have d0 : H7[H6.length]? = some dead0 := by have := hd7 0 (by decide); rwa [Nat.add_zero] at this
    obtain ⟨u1, a1, s1, k1, -⟩ := nb6.cut8 (low := none) (high := some (.int .i64 i)) (lo := 0) (hi := i) (by omega) (by omega) (by simp [lowIs]) (by simp [highIs])
    obtain ⟨u2, a2, s2, k2, -⟩ := nb6.cut8 (low := some (.int .i64 i)) (high := none) (lo := i) (hi := pb.length) (by omega) (Nat.le_refl _) (by simp [lowIs]) (by simp [highIs])
    rw [List.take_length] at s2
    rw [List.drop_zero] at s1
    have b1 : ∀ X, Chg [] H6 X → aslice X 1 (.slice ya pb.length yc ys) none (some (.int .i64 i)) none = some u1 := fun X c => aslice_chg c (by simp) a1
    have b2 : ∀ X, Chg [] H6 X → aslice X 1 (.slice ya pb.length yc ys) (some (.int .i64 i)) none none = some u2 := fun X c => aslice_chg c (by simp) a2
    obtain ⟨G7, eG7⟩ : ∃ G, G = H7.set H6.length (.cells [] .rw) := ⟨_, rfl⟩
    have cG7 : Chg [] H6 G7 := by rw [eG7]; exact c8.set_new (by omega) _
    have ow7 : Mine G7 1 (.slice (some (H6.length, 0)) 0 (some 0) 1) [] := .row _ 0 _ [] _ Nat.one_pos (by rw [eG7]; exact List.getElem?_set_self (lt_of_get d0)) (by simp) (by simp) (by simp)
    have n7 : New8 H6 G7 (.slice (some (H6.length, 0)) 0 (some 0) 1) [] := ⟨ow7, cG7, by simp⟩
    have d6' : G7[H6.length + 6]? = some dead0 := by rw [eG7]; exact (Chg.set H7 H6.length _).get d6 (by simp)
    have dd6 : isDeadB G7[H6.length + 6]? = true := by rw [d6']; rfl
    simp [d6_11, dd0, b1 _ c8, b2 _ c8]
    rw [← eG7]
    simp [b1 _ cG7, b2 _ cG7]
    refine Hx.mapp (n7.1.append (s1.keep cG7) Nat.one_pos Nat.one_pos u8s_one (by simp; unfold room; omega)) ?_
    rintro ⟨w2, H8⟩ ⟨m8, c9, k8⟩
    simp only [List.nil_append] at m8 c9 k8
    have d68 : H8[H6.length + 6]? = some dead0 := c9.get d6' (by simp)
    have dd68 : isDeadB H8[H6.length + 6]? = true := by rw [d68]; rfl
    have hlt7 := lt_of_get d6'
    obtain ⟨G8, eG8⟩ : ∃ G, G = H8.set (H6.length + 6) (.cells [.int .u8 by_] .rw) := ⟨_, rfl⟩
    have n8 : New8 H6 H8 w2 (pb.take i) := n7.to m8 c9 k8
    have hnw : H6.length + 6 ∉ blk w2 := fun h => by
      rcases k8 _ h with h | h
      · simp at h
      · omega
    have cG8 : Chg [] H6 G8 := by rw [eG8]; exact n8.2.1.set_new (by omega) _
    have n8' : New8 H6 G8 w2 (pb.take i) := ⟨by rw [eG8]; exact n8.1.chg (.set _ _ _) (fun x hx => by simp; exact fun e => hnw (e ▸ hx)), cG8, n8.2.2⟩
    have sx : B8 G8 (.slice (some (H6.length + 6, 0)) 1 (some 1) 1) [by_] := by
      rw [eG8]
      exact SL.mk Nat.one_pos (rowOf_self (lt_of_get d68)) (by simp) (by simp)
    simp [dd6, dd68]
    rw [← eG8]
    refine Hx.mapp (n8'.1.append sx Nat.one_pos Nat.one_pos u8s_one (by simp; unfold room; omega)) ?_
    rintro ⟨w3, H9⟩ ⟨m9, c10, k9⟩
    simp only at m9 c10 k9
    rw [← u8s_app] at m9
    have n9 : New8 H6 H9 w3 (pb.take i ++ [by_]) := n8'.to m9 c10 k9
    simp
    refine Hx.mapp (n9.1.append (s2.keep n9.2.1) Nat.one_pos Nat.one_pos u8s_one (by simp; unfold room; omega)) ?_
    rintro ⟨w4, H10⟩ ⟨m10, c11, k10⟩
    simp only at m10 c11 k10
    rw [← u8s_app] at m10
    have ns : New8 H6 H10 w4 (pb.take i ++ [by_] ++ pb.drop i) := n9.to m10 c11 k10
    simp [b2 _ cG8, b2 _ n9.2.1]
    have hBs : Byt (pb.take i ++ [by_] ++ pb.drop i) := ((hBp.take i).app (fun x hx => by simp at hx; subst hx; exact hb)).app (hBp.drop _)
    have hsl : (pb.take i ++ [by_] ++ pb.drop i).length ≤ 400 := by simp; omega
    generalize hgs : pb.take i ++ [by_] ++ pb.drop i = sb at *
    have hB1 := hBs
    obtain ⟨sa, sc, ss_, rfl⟩ := ns.1.sl.len8
    try simp
    have cs := ns.2.1
    refine Hx.mapp (read_ok ns.1.sl hBs (by omega) (by omega)) ?_
    rintro ⟨r, H12⟩ ⟨c8, hr⟩
    simp only at c8 hr
    rcases hr with ⟨vx, x, rfl, g1, g2, g3, g4⟩ | ⟨rfl, -⟩
    · have o1 := SI.one g1
      have hxl := right_len g2
      obtain ⟨GG, e8⟩ : ∃ G, G = H12 ++ [.cells (x.cs vx) .rw] := ⟨_, rfl⟩
      have c9 : Chg [] H12 GG := by rw [e8]; exact .app _ _
      have r9 : GG[H12.length]? = some (.cells (x.cs vx) .rw) := by rw [e8]; simp
      have q9 := rowOf_rw r9
      simp only [Cf.cs] at e8 q9
      simp [Cf.cs, o1]
      rw [← e8]
      try simp [q9]
      refine Hx.mapp (put_ok (c := x) (g1.keep c9) (by omega) g3 (by omega)) ?_
      rintro ⟨r, H13⟩ ⟨y, e, ny⟩
      simp only at e ny
      subst e
      simp only [g2, if_true] at ny
      have t1 := toStr_b8 ny.1.sl
      have t2 := toStr_b8 (((ns.1.sl.keep c8).keep c9).keep ny.2.1)
      have t3 := strN_beq (encs_byt (flat_i64 g2 g3)) hBs
      rw [g4] at t1
      simp [g2, t1, t2]
      refine Hx.mapp (planReads_ok (((ns.1.sl.keep c8).keep c9).keep ny.2.1) hBs (by omega)) ?_
      rintro ⟨r, H11⟩ ⟨e, -⟩
      simp only at e
      subst e
      simp
    · simp [Cf.cs, Cf.zero]
      refine Hx.mapp (planReads_ok ((ns.1.sl.keep c8).keep (.app _ _)) hBs (by omega)) ?_
      rintro ⟨r, H11⟩ ⟨e, -⟩
      simp only at e
      subst e
      simp
end
theorem planBack_main (H : AH) (ass : List (List AV)) (hl : ass.length = [36, 5, 5, 5].length) (ha : ∀ (i : Nat) t al, [36, 5, 5, 5][i]? = some t → ass[i]? = some al → AR ap 6 H t al) :
    Hx (callA ap 2000 (.func 6 [] []) (List.zipWith (argA ap) [36, 5, 5, 5] ass) 0 H) fun r => r.1 = .bool true := by
  match ass, hl with
  | [a0, a1, a2, a3], _ =>
    obtain ⟨v, L, rfl, h0, hL⟩ := ar_u64s (ha 0 36 a0 rfl rfl) ty36 rfl ty64 rfl rfl
    obtain ⟨x1, rfl, w1⟩ := ar_int (ha 1 5 a1 rfl rfl) ty5 rfl
    obtain ⟨x2, rfl, w2⟩ := ar_int (ha 2 5 a2 rfl rfl) ty5 rfl
    obtain ⟨x3, rfl, w3⟩ := ar_int (ha 3 5 a3 rfl rfl) ty5 rfl
    simp only [List.zipWith_cons_cons, List.zipWith_nil_right, argA_one ty36 rfl, argA_one ty5 rfl]
    exact planBack_ok h0 hL (wf_u8 w1) (wf_u8 w2) (wf_u8 w3) (by omega)
end Go.Proofs.Ytndgfpknegoleaa.T
