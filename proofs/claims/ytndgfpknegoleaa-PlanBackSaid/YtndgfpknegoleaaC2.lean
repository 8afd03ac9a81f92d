import Derived.Test.YtndgfpknegoleaaC1
/-! Configs: which are the same; lists of ints. -/
set_option linter.unusedVariables false
set_option linter.unusedSimpArgs false
set_option maxHeartbeats 4000000
set_option maxRecDepth 100000
namespace Go.Proofs.Ytndgfpknegoleaa.T
open Go Go.Ab
def i64s (l : List Int) : List AV := l.map (AV.int .i64)
@[simp] theorem i64s_len {l : List Int} : (i64s l).length = l.length := by simp [i64s]
@[simp] theorem i64s_one {l : List Int} : (i64s l).all AV.one = true := by simp [i64s]
theorem i64s_app {a b : List Int} : i64s (a ++ b) = i64s a ++ i64s b := by simp [i64s]
abbrev SN (H : AH) (v : AV) (l : List Int) : Prop := SL H 1 v (i64s l)
section
variable {k : Nat} {H : AH} {v w : AV}
theorem SN.form {l : List Int} (h : SN H v l) : ∃ a c s, v = .slice a l.length c s := by
  have := h.form1
  simpa using this
theorem SN.get {l : List Int} (h : SN H v l) {i : Nat} (hi : i < l.length) : ∃ b o c r, v = .slice (some (b, o)) l.length c 1 ∧ rowOf H b = some r ∧ r[o + i]? = some (.int .i64 (l.getD i 0)) := by
  obtain ⟨b, o, c, r, e, h1, h2⟩ := h.get1 (i := i) (by simpa using hi)
  refine ⟨b, o, c, r, by simpa using e, h1, ?_⟩
  rw [h2]
  simp [i64s, List.getElem?_eq_getElem hi]
theorem eqN {a b : List Int} (hl : a.length = b.length) (h : ∀ i, i < b.length → a.getD i 0 = b.getD i 0) : a = b := eq_getD hl h
theorem nums_ok {a b : List Int} (ha : SN H v a) (hb : SN H w b) (hl : a.length ≤ 1000000) (hl2 : b.length ≤ 1000000) (hk : a.length + 10 < k) : Hx (callA ap k (.func 15 [] []) [v, w] 0 H) fun r => r.1 = .bool (decide (a = b)) ∧ Chg [] H r.2 := by
  obtain ⟨k, rfl⟩ : ∃ k', k = k' + 1 := ⟨k - 1, by omega⟩
  rw [hx_call fn15 rfl]
  obtain ⟨x, c, s, rfl⟩ := SN.form ha
  obtain ⟨x', c', s', rfl⟩ := SN.form hb
  by_cases hn : a.length = b.length
  · simp [f15, b15, hn]
    refine hx_up (fun i s1 => ∃ H', s1 = ⟨sp 26 [(0, .slice x b.length c s), (1, .slice x' b.length c' s'), (5, .int .i64 i)], H', []⟩ ∧ Chg [] H H' ∧ ∀ j, j < i → a.getD j 0 = b.getD j 0) b.length ?_ ?_ (by omega) ⟨H, rfl, .refl, by simp⟩
    · rintro i _ hi ⟨H', rfl, c1, hq⟩
      have hw : IntKind.i64.wrap ((i : Int) + 1) = ((i + 1 : Nat) : Int) := by rw [wrap_i64 (by omega) (by omega)]; omega
      simp [hi]
      refine hx_drawn dc15_6 fun H1 c2 hl hd => ?_
      obtain ⟨b0, o0, c0, r0, e0, g0, g1⟩ := SN.get (ha.keep (c1.tr c2)) (hn ▸ hi)
      obtain ⟨b1, o1, c1', r1, e1, g2, g3⟩ := SN.get (hb.keep (c1.tr c2)) hi
      injection e0 with z1 z2 z3 z4
      subst z1 z3 z4
      injection e1 with z1 z2 z3 z4
      subst z1 z3 z4
      have hup : a.getD i 0 = b.getD i 0 → ∀ j, j < i + 1 → a[j]?.getD 0 = b[j]?.getD 0 := fun he j hj => by
        rw [← List.getD_eq_getElem?_getD, ← List.getD_eq_getElem?_getD]
        rcases Nat.lt_succ_iff_lt_or_eq.1 hj with hj | rfl
        · exact hq j hj
        · exact he
      have hne : ¬ a.getD i 0 = b.getD i 0 → ¬ a = b := fun h e => h (by rw [e])
      have c3 := c1.tr c2
      generalize a.getD i 0 = p at *
      generalize b.getD i 0 = q at *
      by_cases he : p = q
      · simp [d15_6, hi, g0, g1, g2, g3, he, hw]
        exact ⟨H1, rfl, c3, hup he⟩
      · simp [d15_6, hi, g0, g1, g2, g3, he, hw, hne he, c3]
    · rintro _ ⟨H', rfl, c1, hq⟩
      have he : a = b := eqN hn hq
      simp [he, c1]
  · have hne : ¬ a = b := fun e => hn (by rw [e])
    have hn' : ¬ (a.length : Int) = (b.length : Int) := by omega
    simp [f15, b15, hn', hne]
    exact .refl
/-- Alike, but for the instruments. -/
def sameR (a b : Cf) : Bool := decide (a.skin = b.skin) && (decide (a.times = b.times) && (decide (a.port = b.port) && (decide (a.bid = b.bid) && (decide (a.lot = b.lot) && decide (a.hmin = b.hmin)))))
theorem sameR_eq {a b : Cf} (h : a.ins = b.ins) : sameR a b = decide (a = b) := by
  obtain ⟨_, _, _, _, _, _, _⟩ := a
  obtain ⟨_, _, _, _, _, _, _⟩ := b
  simp only at h
  subst h
  rw [Bool.eq_iff_iff]
  simp [sameR]
theorem get_ne {l m : List I4} {i : Nat} (h1 : i < l.length) (h2 : i < m.length) (h : ¬ l[i] = m[i]) : ¬ l = m := fun e => h (by subst e; rfl)
theorem eqI {l m : List I4} (hl : l.length = m.length) (h : ∀ i (h1 : i < l.length) (h2 : i < m.length), l[i] = m[i]) : l = m := List.ext_getElem hl h
theorem eqI4 {p q : I4} : eqF ap 0 [(0, 3), (1, 2), (2, 2), (3, 2)] [AV.int .i64 p.b, AV.int .i64 p.p, AV.int .i64 p.r, AV.int .i64 p.s] [AV.int .i64 q.b, AV.int .i64 q.p, AV.int .i64 q.r, AV.int .i64 q.s] = some (decide (p = q)) := by
  obtain ⟨_, _, _, _⟩ := p
  obtain ⟨_, _, _, _⟩ := q
  simp [eqF, eqC]
  rw [Bool.eq_iff_iff]
  simp
theorem equal_ok {l m : List I4} (ha : SI H v l) (hb : SI H w m) (hl : l.length ≤ 1000000) (hl2 : m.length ≤ 1000000) (hk : l.length + 10 < k) : Hx (callA ap k (.func 26 [] []) [v, w] 0 H) fun r => r.1 = .bool (decide (l = m)) ∧ Chg [] H r.2 := by
  obtain ⟨k, rfl⟩ : ∃ k', k = k' + 1 := ⟨k - 1, by omega⟩
  rw [hx_call fn26 rfl]
  obtain ⟨x, c, s, rfl⟩ := SI.form ha
  obtain ⟨x', c', s', rfl⟩ := SI.form hb
  by_cases hn : l.length = m.length
  · simp [f26, b26, hn]
    refine hx_up (fun i s1 => ∃ H', s1 = ⟨sp 26 [(0, .slice x m.length c s), (1, .slice x' m.length c' s'), (12, .int .i64 m.length), (13, .int .i64 i)], H', []⟩ ∧ Chg [] H H' ∧ ∀ j (h1 : j < l.length) (h2 : j < m.length), j < i → l[j] = m[j]) m.length ?_ ?_ (by omega) ⟨H, rfl, .refl, by simp⟩
    · rintro i _ hi ⟨H', rfl, c1, hq⟩
      have hw : IntKind.i64.wrap ((i : Int) + 1) = ((i + 1 : Nat) : Int) := by rw [wrap_i64 (by omega) (by omega)]; omega
      simp [hi]
      refine hx_drawn dc26_6 fun H1 c2 hl hd => ?_
      have hi' : i < l.length := hn ▸ hi
      obtain ⟨b0, o0, c0, r0, e0, g0, ga, g1, -⟩ := SI.get (ha.keep (c1.tr c2)) (get_d hi')
      obtain ⟨b1, o1, c1', r1, e1, g2, gb, g3, -⟩ := SI.get (hb.keep (c1.tr c2)) (get_d hi)
      injection e0 with z1 z2 z3 z4
      subst z1 z3 z4
      injection e1 with z1 z2 z3 z4
      subst z1 z3 z4
      have hup : l[i] = m[i] → ∀ j (h1 : j < l.length) (h2 : j < m.length), j < i + 1 → l[j] = m[j] := fun he j h1 h2 hj => by
        rcases Nat.lt_succ_iff_lt_or_eq.1 hj with hj | rfl
        · exact hq j h1 h2 hj
        · exact he
      have hne := get_ne hi' hi
      have c3 := c1.tr c2
      generalize l[i] = p at *
      generalize m[i] = q at *
      simp only [I4.cs] at g1 g3
      by_cases he : p = q
      · subst he
        simp [d26_6, hi, g0, g1, g2, g3, ga, gb, hw, eqV, eqI4]
        exact ⟨H1, rfl, c3, hup rfl⟩
      · simp [d26_6, hi, g0, g1, g2, g3, ga, gb, hw, hne he, c3, eqV, eqI4, he]
    · rintro _ ⟨H', rfl, c1, hq⟩
      have he : l = m := eqI hn (fun j h1 h2 => hq j h1 h2 h2)
      simp [he, c1]
  · have hne : ¬ l = m := fun e => hn (by rw [e])
    have hn' : ¬ (l.length : Int) = (m.length : Int) := by omega
    simp [f26, b26, hn', hne]
    exact .refl
theorem same_ok {a b : Cf} (ha : SI H v a.ins) (hb : SI H w b.ins) (hl : a.ins.length ≤ 1000000) (hl2 : b.ins.length ≤ 1000000) (hk : a.ins.length + 20 < k) : Hx (callA ap k (.func 13 [] []) [.agg (a.cs v), .agg (b.cs w)] 0 H) fun r => r.1 = .bool (decide (a = b)) ∧ Chg [] H r.2 := by
  obtain ⟨k, rfl⟩ : ∃ k', k = k' + 1 := ⟨k - 1, by omega⟩
  rw [hx_call fn13 rfl]
  simp [f13, b13, Cf.cs]
  obtain ⟨H1, e1⟩ : ∃ H1, H1 = H ++ [.cells (a.cs v) .rw, .cells (b.cs w) .rw] := ⟨_, rfl⟩
  have c1 : Chg [] H H1 := by rw [e1]; exact .app _ _
  have ga : H1[H.length]? = some (.cells (a.cs v) .rw) := by rw [e1]; simp
  have gb : H1[H.length + 1]? = some (.cells (b.cs w) .rw) := by rw [e1]; simp
  simp only [Cf.cs] at e1 ga gb
  rw [← e1]
  refine Hx.mapp (equal_ok (ha.keep c1) (hb.keep c1) hl hl2 (by omega)) ?_
  rintro ⟨r, H2⟩ ⟨e, c2⟩
  simp only at e c2
  subst e
  have c3 := c1.tr c2
  have ga2 := rowOf_rw (c2.get ga (by simp))
  have gb2 := rowOf_rw (c2.get gb (by simp))
  by_cases he : a.ins = b.ins
  · simp only [he, decide_true]
    by_cases q0 : a.skin = b.skin
    case neg =>
      have hne : ¬ a = b := fun e => q0 (by rw [e])
      simp [ga2, gb2, c3, q0, hne]
    by_cases q1 : a.times = b.times
    case neg =>
      have hne : ¬ a = b := fun e => q1 (by rw [e])
      simp [ga2, gb2, c3, q0, q1, hne]
    by_cases q2 : a.port = b.port
    case neg =>
      have hne : ¬ a = b := fun e => q2 (by rw [e])
      simp [ga2, gb2, c3, q0, q1, q2, hne]
    by_cases q3 : a.bid = b.bid
    case neg =>
      have hne : ¬ a = b := fun e => q3 (by rw [e])
      simp [ga2, gb2, c3, q0, q1, q2, q3, hne]
    by_cases q4 : a.lot = b.lot
    case neg =>
      have hne : ¬ a = b := fun e => q4 (by rw [e])
      simp [ga2, gb2, c3, q0, q1, q2, q3, q4, hne]
    by_cases q5 : a.hmin = b.hmin
    case neg =>
      have hne : ¬ a = b := fun e => q5 (by rw [e])
      simp [ga2, gb2, c3, q0, q1, q2, q3, q4, q5, hne]
    have he2 : a = b := by
      obtain ⟨_, _, _, _, _, _, _⟩ := a
      obtain ⟨_, _, _, _, _, _, _⟩ := b
      simp_all
    simp [ga2, gb2, c3, q0, q1, q2, q3, q4, q5, he2]
  · have hne : ¬ a = b := fun e => he (by rw [e])
    simp [he, c3, hne]
theorem rsame_ok {a b : Cf} (ha : SI H v a.ins) (hb : SI H w b.ins) (hl : a.ins.length ≤ 1000000) (hl2 : b.ins.length ≤ 1000000) (hk : a.ins.length + 20 < k) : Hx (callA ap k (.func 14 [] []) [.agg (a.cs v), .agg (b.cs w)] 0 H) fun r => r.1 = .bool (decide (a = b)) ∧ Chg [] H r.2 := by
  obtain ⟨k, rfl⟩ : ∃ k', k = k' + 1 := ⟨k - 1, by omega⟩
  rw [hx_call fn14 rfl]
  obtain ⟨x, c, s, rfl⟩ := SI.form ha
  obtain ⟨x', c', s', rfl⟩ := SI.form hb
  by_cases hn : a.ins.length = b.ins.length
  · simp [f14, b14, Cf.cs, hn]
    obtain ⟨H1, e9⟩ : ∃ H1, H1 = H ++ [.cells (a.cs (.slice x a.ins.length c s)) .rw, .cells (b.cs (.slice x' b.ins.length c' s')) .rw] := ⟨_, rfl⟩
    have c1 : Chg [] H H1 := by rw [e9]; exact .app _ _
    have ga : H1[H.length]? = some (.cells (a.cs (.slice x a.ins.length c s)) .rw) := by rw [e9]; simp
    have gb : H1[H.length + 1]? = some (.cells (b.cs (.slice x' b.ins.length c' s')) .rw) := by rw [e9]; simp
    simp only [Cf.cs, hn] at e9 ga gb
    rw [← e9]
    refine hx_up (fun i s1 => ∃ H', s1 = ⟨sp 71 [(2, .ptr (some (H.length, 0))), (3, .ptr (some (H.length + 1, 0))), (5, .int .i64 i)], H', []⟩ ∧ Chg [] H1 H' ∧ ∀ j (h1 : j < a.ins.length) (h2 : j < b.ins.length), j < i → a.ins[j] = b.ins[j]) b.ins.length ?_ ?_ (by omega) ⟨H1, rfl, .refl, by simp⟩
    · rintro i _ hi ⟨H', rfl, c2, hq⟩
      have hw : IntKind.i64.wrap ((i : Int) + 1) = ((i + 1 : Nat) : Int) := by rw [wrap_i64 (by omega) (by omega)]; omega
      have gA := rowOf_rw (c2.get ga (by simp))
      have gB := rowOf_rw (c2.get gb (by simp))
      simp [hi, gA]
      refine hx_drawn dc14_6 fun H2 c3 hl hd => ?_
      have c4 := c2.tr c3
      have gA := rowOf_rw (c4.get ga (by simp))
      have gB := rowOf_rw (c4.get gb (by simp))
      have hi' : i < a.ins.length := hn ▸ hi
      obtain ⟨b0, o0, c0, r0, e0, g0, h0, g1, -⟩ := SI.get (ha.keep (c1.tr c4)) (get_d hi')
      obtain ⟨b1, o1, c1', r1, e1, g2, h1, g3, -⟩ := SI.get (hb.keep (c1.tr c4)) (get_d hi)
      injection e0 with z1 z2 z3 z4
      subst z1 z3 z4
      injection e1 with z1 z2 z3 z4
      subst z1 z3 z4
      have hup : a.ins[i] = b.ins[i] → ∀ j (h1 : j < a.ins.length) (h2 : j < b.ins.length), j < i + 1 → a.ins[j] = b.ins[j] := fun he j h1 h2 hj => by
        rcases Nat.lt_succ_iff_lt_or_eq.1 hj with hj | rfl
        · exact hq j h1 h2 hj
        · exact he
      have hne : ¬ a.ins[i] = b.ins[i] → ¬ a = b := fun h e => get_ne hi' hi h (by rw [e])
      have c5 := c1.tr c4
      generalize a.ins[i] = p at *
      generalize b.ins[i] = q at *
      simp only [I4.cs] at g1 g3
      by_cases he : p = q
      · subst he
        simp [d14_6, hi, gA, gB, g0, g1, g2, g3, h0, h1, hw, eqV, eqI4]
        exact ⟨H2, rfl, c4, hup rfl⟩
      · simp [d14_6, hi, gA, gB, g0, g1, g2, g3, h0, h1, hw, hne he, c5, eqV, eqI4, he]
    · rintro _ ⟨H', rfl, c2, hq⟩
      have he : a.ins = b.ins := eqI hn (fun j h1 h2 => hq j h1 h2 h2)
      have ga2 := rowOf_rw (c2.get ga (by simp))
      have gb2 := rowOf_rw (c2.get gb (by simp))
      have c3 := c1.tr c2
      by_cases q0 : a.skin = b.skin
      case neg =>
        have hne : ¬ a = b := fun e => q0 (by rw [e])
        simp [ga2, gb2, c3, q0, hne]
      by_cases q1 : a.times = b.times
      case neg =>
        have hne : ¬ a = b := fun e => q1 (by rw [e])
        simp [ga2, gb2, c3, q0, q1, hne]
      by_cases q2 : a.port = b.port
      case neg =>
        have hne : ¬ a = b := fun e => q2 (by rw [e])
        simp [ga2, gb2, c3, q0, q1, q2, hne]
      by_cases q3 : a.bid = b.bid
      case neg =>
        have hne : ¬ a = b := fun e => q3 (by rw [e])
        simp [ga2, gb2, c3, q0, q1, q2, q3, hne]
      by_cases q4 : a.lot = b.lot
      case neg =>
        have hne : ¬ a = b := fun e => q4 (by rw [e])
        simp [ga2, gb2, c3, q0, q1, q2, q3, q4, hne]
      by_cases q5 : a.hmin = b.hmin
      case neg =>
        have hne : ¬ a = b := fun e => q5 (by rw [e])
        simp [ga2, gb2, c3, q0, q1, q2, q3, q4, q5, hne]
      have he2 : a = b := by
        obtain ⟨_, _, _, _, _, _, _⟩ := a
        obtain ⟨_, _, _, _, _, _, _⟩ := b
        simp_all
      simp [ga2, gb2, c3, q0, q1, q2, q3, q4, q5, he2]
  · have hne : ¬ a = b := fun e => hn (by rw [e])
    have hn' : ¬ (a.ins.length : Int) = (b.ins.length : Int) := by omega
    simp [f14, b14, Cf.cs, hn', hne]
    exact .app _ _
end
end Go.Proofs.Ytndgfpknegoleaa.T
