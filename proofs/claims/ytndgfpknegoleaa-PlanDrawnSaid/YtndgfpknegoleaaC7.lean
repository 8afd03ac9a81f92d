import Derived.Test.YtndgfpknegoleaaC6
/-! PlanDrawn. -/
set_option linter.unusedVariables false
set_option linter.unusedSimpArgs false
set_option maxHeartbeats 4000000
set_option maxRecDepth 100000
namespace Go.Proofs.Ytndgfpknegoleaa.T
open Go Go.Ab
def I4.put (y : I4) : Nat → Int → I4
  | 0, x => { y with b := x }
  | 1, x => { y with p := x }
  | 2, x => { y with r := x }
  | _, x => { y with s := x }
theorem put_cs (y : I4) (f : Nat) (hf : f < 4) (x : Int) : (y.put f x).cs = y.cs.set f (.int .i64 x) := by
  match f, hf with
  | 0, _ => rfl
  | 1, _ => rfl
  | 2, _ => rfl
  | 3, _ => rfl
theorem insC_cons (y : I4) (l : List I4) : insC (y :: l) = y.cs ++ insC l := by simp [insC]
theorem insC_set : ∀ (l : List I4) (i f : Nat) (hi : i < l.length) (hf : f < 4) (x : Int), insC (l.set i (l[i].put f x)) = (insC l).set (i * 4 + f) (.int .i64 x)
  | y :: l, 0, f, hi, hf, x => by
    simp only [List.set_cons_zero, List.getElem_cons_zero, insC_cons, Nat.zero_mul, Nat.zero_add]
    rw [put_cs y f hf, List.set_append_left _ _ (by simpa [I4.cs] using hf)]
  | y :: l, i + 1, f, hi, hf, x => by
    have hi' : i < l.length := by simpa using hi
    simp only [List.set_cons_succ, List.getElem_cons_succ, insC_cons]
    rw [insC_set l i f hi' hf x, List.set_append_right _ _ (by simp [I4.cs]; omega)]
    congr 2
    simp [I4.cs]
    omega
theorem mineI_set {H : AH} {v : AV} {l : List I4} (h : Mine H 4 v (insC l)) {i f : Nat} (hi : i < l.length) (hf : f < 4) (x : Int) :
    ∃ b c r, v = .slice (some (b, 0)) l.length c 4 ∧ rowRw H 0 b = some r ∧ i * 4 + f + 1 ≤ r.length ∧ Mine (H.set b (.cells (r.take (i * 4 + f) ++ .int .i64 x :: r.drop (i * 4 + f + 1)) .rw)) 4 v (insC (l.set i (l[i].put f x))) := by
  obtain ⟨a, c', s', e⟩ := SI.form h.sl
  generalize hcs : insC l = cs at h
  cases h with
  | nil c s =>
    injection e with _ e _ _
    omega
  | row b n c r cs hz h1 h2 h3 h4 =>
    injection e with _ e _ _
    subst e
    have hr : i * 4 + f < r.length := by omega
    have hs := List.set_eq_take_append_cons_drop (l := r) (i := i * 4 + f) (a := AV.int .i64 x)
    rw [if_pos hr] at hs
    refine ⟨b, c, r, rfl, rowRw_rw h1, by omega, ?_⟩
    rw [← hs]
    refine .row b _ c _ _ hz (List.getElem?_set_self (lt_of_get h1)) (by simpa using h2) ?_ (fun k hk => by simpa using h4 k hk)
    rw [insC_set l i f hi hf, hcs, ← h3, List.take_set]
section
variable {k : Nat} {H : AH} {v w : AV}
/-- Two configs that were drawn, and their cells. -/
structure Two (H : AH) (a b : Nat) (v w : AV) (c d : Cf) : Prop where
  row1 : H[a]? = some (.cells (c.cs v) .rw)
  row2 : H[b]? = some (.cells (d.cs w) .rw)
  si : SI H v c.ins
  mine : Mine H 4 w (insC d.ins)
  ab : a < b
  nv : ∀ i ∈ blk v, i < a
  nw : ∀ i ∈ blk w, a < i ∧ i ≠ b
  f1 : FitC c
  f2 : FitC d
theorem insC_one : ∀ (l : List I4), (insC l).all AV.one = true
  | [] => rfl
  | y :: l => by rw [insC_cons, List.all_append, insC_one l]; rfl
theorem insC_app (l m : List I4) : insC (l ++ m) = insC l ++ insC m := by simp [insC]
theorem Two.chg {H H' : AH} {a b m : Nat} {v w : AV} {c d : Cf} {F : List Nat} (h : Two H a b v w c d) (cc : Chg F H H') (hF : ∀ i ∈ F, m ≤ i) (hb : b < m) (hw : ∀ i ∈ blk w, i < m) : Two H' a b v w c d := by
  have hab := h.ab
  exact ⟨cc.get h.row1 (fun e => by have := hF _ e; omega), cc.get h.row2 (fun e => by have := hF _ e; omega), h.si.chg cc (fun i hi e => by have := hF _ e; have := h.nv i hi; omega), h.mine.chg cc (fun i hi e => by have := hF _ e; have := hw i hi; omega), h.ab, h.nv, h.nw, h.f1, h.f2⟩
theorem planDrawn_ok {L : List Int} {how x : Int} (h : SL H 1 v (u64s L)) (hL : ∀ x ∈ L, U64 x) (hh : 0 ≤ how ∧ how < 256) (hx : I64 x) (hk : 300 < k) :
    Hx (callA ap k (.func 4 [] []) [v, .int .u8 how, .int .i64 x] 0 H) fun r => r.1 = .bool true := by
  obtain ⟨k, rfl⟩ : ∃ k', k = k' + 40 := ⟨k - 40, by omega⟩
  rw [hx_call fn4 rfl]
  simp [f4, b4, known_ok]
  refine Hx.mapp (of_ok h hL) ?_
  rintro ⟨r, H1⟩ ⟨e, dk, c1⟩
  simp only at e dk c1
  subst e
  simp
  refine Hx.mapp (config_ok dk (by omega)) ?_
  rintro ⟨r, H2⟩ ⟨v1, c, e, m1, hr1, f1, -, c2, k1⟩
  simp only at e m1 c2
  subst e
  have d2 : Chg [] H H2 := c1.trans c2 (by simp)
  have o1 : v1.one = true := by obtain ⟨_, _, _, _, rfl, _⟩ := m1.sl.form; rfl
  obtain ⟨G2, eG2⟩ : ∃ G2, G2 = H2 ++ [.cells (c.cs v1) .rw] := ⟨_, rfl⟩
  have x2 : Chg [] H2 G2 := by rw [eG2]; exact .app _ _
  have r1 : G2[H2.length]? = some (.cells (c.cs v1) .rw) := by rw [eG2]; simp
  have nv : ∀ i ∈ blk v1, i < H2.length := m1.lt
  replace m1 := m1.keep x2
  have gl : G2.length = H2.length + 1 := by rw [eG2]; simp
  simp only [Cf.cs] at eG2
  simp [Cf.cs, o1]
  rw [← eG2]
  refine Hx.mapp (of_ok (h.keep (d2.tr x2)) hL) ?_
  rintro ⟨r, H3⟩ ⟨e, dk, c3⟩
  simp only at e dk c3
  subst e
  simp
  refine Hx.mapp (config_ok dk (by omega)) ?_
  rintro ⟨r, H4⟩ ⟨v2, d, e, m2, hr2, f2, -, c4, k2⟩
  simp only at e m2 c4
  subst e
  have o2 : v2.one = true := by obtain ⟨_, _, _, _, rfl, _⟩ := m2.sl.form; rfl
  have d4 : Chg [] G2 H4 := c3.trans c4 (by simp)
  obtain ⟨G4, eG4⟩ : ∃ G4, G4 = H4 ++ [.cells (d.cs v2) .rw] := ⟨_, rfl⟩
  have x4 : Chg [] H4 G4 := by rw [eG4]; exact .app _ _
  have r2 : G4[H4.length]? = some (.cells (d.cs v2) .rw) := by rw [eG4]; simp
  have tw : Two G4 H2.length H4.length v1 v2 c d :=
    ⟨x4.get (d4.get r1 (by simp)) (by simp), r2, m1.sl.keep (d4.tr x4), m2.keep x4, by have := d4.1; omega, nv, fun i hi => by have a1 : H3.length ≤ i := k2 i hi; have a2 := m2.lt i hi; have a3 := c3.1; omega, f1, f2⟩
  simp only [Cf.cs] at eG4
  simp [Cf.cs, o2]
  rw [← eG4]
  have q1 := rowOf_rw tw.row1
  simp only [Cf.cs] at q1
  simp [q1]
  refine Hx.mapp (right_ok (c := c) tw.si (by have := right_len hr1; omega) (by have := right_len hr1; omega)) ?_
  rintro ⟨r, H5⟩ ⟨e, c5⟩
  simp only at e c5
  subst e
  have tw : Two H5 H2.length H4.length v1 v2 c d := ⟨c5.get tw.row1 (by simp), c5.get tw.row2 (by simp), tw.si.keep c5, tw.mine.keep c5, tw.ab, tw.nv, tw.nw, f1, f2⟩
  have q2 := rowOf_rw tw.row2
  simp only [Cf.cs] at q2
  have hl2 := right_len hr2
  have s16 : IntKind.i64.wrap (IntKind.u8.wrap (how.tdiv 16)) = how / 16 := by
    rw [Int.tdiv_eq_ediv_of_nonneg hh.1, wrap_u8, wrap_i64 (by omega) (by omega)]; omega
  obtain ⟨a2, n2, p2, s2, ev2, en2⟩ := tw.mine.sl.form
  obtain ⟨a2', n2', p2', ev2'⟩ := SI.form tw.mine.sl
  have hrem : (how / 16).tmod (d.ins.length : Int) = ((how / 16) % (d.ins.length : Int)) := Int.tmod_eq_emod_of_nonneg (by omega)
  have hd0 : ¬ (d.ins.length : Int) = 0 := by omega
  have hdn : ¬ d.ins = [] := fun e => by rw [e] at hl2; simp at hl2
  obtain ⟨i, hi, hil⟩ : ∃ i : Nat, (how / 16) % (d.ins.length : Int) = i ∧ i < d.ins.length := by
    have a1 := Int.emod_nonneg (how / 16) hd0
    have a2 := Int.emod_lt_of_pos (how / 16) (b := (d.ins.length : Int)) (by omega)
    exact ⟨((how / 16) % (d.ins.length : Int)).toNat, by omega, by omega⟩
  subst ev2'
  obtain ⟨q, hq⟩ : ∃ q, how.tmod 16 = q := ⟨_, rfl⟩
  by_cases e0 : q = 0
  · obtain ⟨b, c0, r, z, g1, g2, g3⟩ := mineI_set tw.mine hil (f := 0) (by omega) x
    injection z with z1 z2 z3 z4
    subst z1 z3 z4
    simp only [Nat.add_zero] at g2 g3
    simp [hr1, q2, s16, hrem, hd0, hdn, hi, hil, hq, e0, g1, g2]
    obtain ⟨G, eG⟩ : ∃ G, G = H5.set b (.cells (r.take (i * 4) ++ .int .i64 x :: r.drop (i * 4 + 1)) .rw) := ⟨_, rfl⟩
    have tx : Two G H2.length H4.length v1 (.slice (some (b, 0)) d.ins.length n2' 4) c { d with ins := d.ins.set i (d.ins[i].put 0 x) } := by
      rw [← eG] at g3
      have cc : Chg [b] H5 G := by rw [eG]; exact .set _ _ _
      have nb := tw.nw b (by simp)
      exact ⟨cc.get tw.row1 (by simp; omega), cc.get tw.row2 (by simp; omega), tw.si.chg cc (fun i hi => by have := tw.nv i hi; simp; omega), g3, tw.ab, tw.nv, tw.nw, f1, f2⟩
    rw [← eG]
    generalize ({ d with ins := d.ins.set i (d.ins[i].put 0 x) } : Cf) = d' at tx
    have q3 := rowOf_rw tx.row1
    have q4 := rowOf_rw tx.row2
    simp only [Cf.cs] at q3 q4
    simp [q3, q4]
    refine Hx.mapp (planAll_ok (a := d') (b := c) tx.mine.sl tx.si tx.f2 (by omega)) ?_
    rintro ⟨r, H6⟩ ⟨e, c6⟩
    simp only at e c6
    subst e
    have q3 := rowOf_rw (c6.get tx.row1 (by simp))
    have q4 := rowOf_rw (c6.get tx.row2 (by simp))
    simp only [Cf.cs] at q3 q4
    simp [q3, q4]
    refine Hx.mapp (planAll_ok (a := c) (b := d') (tx.si.keep c6) (tx.mine.sl.keep c6) tx.f1 (by omega)) ?_
    rintro ⟨r, H7⟩ ⟨e, c7⟩
    simp only at e
    subst e
    simp
  by_cases e1 : q = 1
  · obtain ⟨b, c0, r, z, g1, g2, g3⟩ := mineI_set tw.mine hil (f := 1) (by omega) x
    injection z with z1 z2 z3 z4
    subst z1 z3 z4
    simp [hr1, q2, s16, hrem, hd0, hdn, hi, hil, hq, e0, e1, g1, g2]
    obtain ⟨G, eG⟩ : ∃ G, G = H5.set b (.cells (r.take (i * 4 + 1) ++ .int .i64 x :: r.drop (i * 4 + 2)) .rw) := ⟨_, rfl⟩
    have tx : Two G H2.length H4.length v1 (.slice (some (b, 0)) d.ins.length n2' 4) c { d with ins := d.ins.set i (d.ins[i].put 1 x) } := by
      rw [← eG] at g3
      have cc : Chg [b] H5 G := by rw [eG]; exact .set _ _ _
      have nb := tw.nw b (by simp)
      exact ⟨cc.get tw.row1 (by simp; omega), cc.get tw.row2 (by simp; omega), tw.si.chg cc (fun i hi => by have := tw.nv i hi; simp; omega), g3, tw.ab, tw.nv, tw.nw, f1, f2⟩
    rw [← eG]
    generalize ({ d with ins := d.ins.set i (d.ins[i].put 1 x) } : Cf) = d' at tx
    have q3 := rowOf_rw tx.row1
    have q4 := rowOf_rw tx.row2
    simp only [Cf.cs] at q3 q4
    simp [q3, q4]
    refine Hx.mapp (planAll_ok (a := d') (b := c) tx.mine.sl tx.si tx.f2 (by omega)) ?_
    rintro ⟨r, H6⟩ ⟨e, c6⟩
    simp only at e c6
    subst e
    have q3 := rowOf_rw (c6.get tx.row1 (by simp))
    have q4 := rowOf_rw (c6.get tx.row2 (by simp))
    simp only [Cf.cs] at q3 q4
    simp [q3, q4]
    refine Hx.mapp (planAll_ok (a := c) (b := d') (tx.si.keep c6) (tx.mine.sl.keep c6) tx.f1 (by omega)) ?_
    rintro ⟨r, H7⟩ ⟨e, c7⟩
    simp only at e
    subst e
    simp
  by_cases e2 : q = 2
  · obtain ⟨b, c0, r, z, g1, g2, g3⟩ := mineI_set tw.mine hil (f := 2) (by omega) x
    injection z with z1 z2 z3 z4
    subst z1 z3 z4
    simp [hr1, q2, s16, hrem, hd0, hdn, hi, hil, hq, e0, e1, e2, g1, g2]
    obtain ⟨G, eG⟩ : ∃ G, G = H5.set b (.cells (r.take (i * 4 + 2) ++ .int .i64 x :: r.drop (i * 4 + 3)) .rw) := ⟨_, rfl⟩
    have tx : Two G H2.length H4.length v1 (.slice (some (b, 0)) d.ins.length n2' 4) c { d with ins := d.ins.set i (d.ins[i].put 2 x) } := by
      rw [← eG] at g3
      have cc : Chg [b] H5 G := by rw [eG]; exact .set _ _ _
      have nb := tw.nw b (by simp)
      exact ⟨cc.get tw.row1 (by simp; omega), cc.get tw.row2 (by simp; omega), tw.si.chg cc (fun i hi => by have := tw.nv i hi; simp; omega), g3, tw.ab, tw.nv, tw.nw, f1, f2⟩
    rw [← eG]
    generalize ({ d with ins := d.ins.set i (d.ins[i].put 2 x) } : Cf) = d' at tx
    have q3 := rowOf_rw tx.row1
    have q4 := rowOf_rw tx.row2
    simp only [Cf.cs] at q3 q4
    simp [q3, q4]
    refine Hx.mapp (planAll_ok (a := d') (b := c) tx.mine.sl tx.si tx.f2 (by omega)) ?_
    rintro ⟨r, H6⟩ ⟨e, c6⟩
    simp only at e c6
    subst e
    have q3 := rowOf_rw (c6.get tx.row1 (by simp))
    have q4 := rowOf_rw (c6.get tx.row2 (by simp))
    simp only [Cf.cs] at q3 q4
    simp [q3, q4]
    refine Hx.mapp (planAll_ok (a := c) (b := d') (tx.si.keep c6) (tx.mine.sl.keep c6) tx.f1 (by omega)) ?_
    rintro ⟨r, H7⟩ ⟨e, c7⟩
    simp only at e
    subst e
    simp
  by_cases e3 : q = 3
  · obtain ⟨b, c0, r, z, g1, g2, g3⟩ := mineI_set tw.mine hil (f := 3) (by omega) x
    injection z with z1 z2 z3 z4
    subst z1 z3 z4
    simp [hr1, q2, s16, hrem, hd0, hdn, hi, hil, hq, e0, e1, e2, e3, g1, g2]
    obtain ⟨G, eG⟩ : ∃ G, G = H5.set b (.cells (r.take (i * 4 + 3) ++ .int .i64 x :: r.drop (i * 4 + 4)) .rw) := ⟨_, rfl⟩
    have tx : Two G H2.length H4.length v1 (.slice (some (b, 0)) d.ins.length n2' 4) c { d with ins := d.ins.set i (d.ins[i].put 3 x) } := by
      rw [← eG] at g3
      have cc : Chg [b] H5 G := by rw [eG]; exact .set _ _ _
      have nb := tw.nw b (by simp)
      exact ⟨cc.get tw.row1 (by simp; omega), cc.get tw.row2 (by simp; omega), tw.si.chg cc (fun i hi => by have := tw.nv i hi; simp; omega), g3, tw.ab, tw.nv, tw.nw, f1, f2⟩
    rw [← eG]
    generalize ({ d with ins := d.ins.set i (d.ins[i].put 3 x) } : Cf) = d' at tx
    have q3 := rowOf_rw tx.row1
    have q4 := rowOf_rw tx.row2
    simp only [Cf.cs] at q3 q4
    simp [q3, q4]
    refine Hx.mapp (planAll_ok (a := d') (b := c) tx.mine.sl tx.si tx.f2 (by omega)) ?_
    rintro ⟨r, H6⟩ ⟨e, c6⟩
    simp only at e c6
    subst e
    have q3 := rowOf_rw (c6.get tx.row1 (by simp))
    have q4 := rowOf_rw (c6.get tx.row2 (by simp))
    simp only [Cf.cs] at q3 q4
    simp [q3, q4]
    refine Hx.mapp (planAll_ok (a := c) (b := d') (tx.si.keep c6) (tx.mine.sl.keep c6) tx.f1 (by omega)) ?_
    rintro ⟨r, H7⟩ ⟨e, c7⟩
    simp only at e
    subst e
    simp
  by_cases e4 : q = 4
  · have qr := rowRw_rw tw.row2
    simp only [Cf.cs] at qr
    simp [hr1, q2, s16, hrem, hd0, hdn, hi, hil, hq, e0, e1, e2, e3, e4, qr]
    obtain ⟨G, eG⟩ : ∃ G, G = H5.set H4.length (.cells (({ d with skin := x } : Cf).cs (.slice a2' d.ins.length n2' p2')) .rw) := ⟨_, rfl⟩
    have tx : Two G H2.length H4.length v1 (.slice a2' d.ins.length n2' p2') c { d with skin := x } := by
      have cc : Chg [H4.length] H5 G := by rw [eG]; exact .set _ _ _
      have nb := tw.ab
      exact ⟨cc.get tw.row1 (by simp; omega), by rw [eG]; exact List.getElem?_set_self (lt_of_get tw.row2), tw.si.chg cc (fun i hi => by have := tw.nv i hi; simp; omega), tw.mine.chg cc (fun i hi => by have := tw.nw i hi; simp; omega), tw.ab, tw.nv, tw.nw, f1, ⟨hx, f2.2⟩⟩
    simp only [Cf.cs] at eG
    rw [← eG]
    generalize ({ d with skin := x } : Cf) = d' at tx
    have q3 := rowOf_rw tx.row1
    have q4 := rowOf_rw tx.row2
    simp only [Cf.cs] at q3 q4
    simp [q3, q4]
    refine Hx.mapp (planAll_ok (a := d') (b := c) tx.mine.sl tx.si tx.f2 (by omega)) ?_
    rintro ⟨r, H6⟩ ⟨e, c6⟩
    simp only at e c6
    subst e
    have q3 := rowOf_rw (c6.get tx.row1 (by simp))
    have q4 := rowOf_rw (c6.get tx.row2 (by simp))
    simp only [Cf.cs] at q3 q4
    simp [q3, q4]
    refine Hx.mapp (planAll_ok (a := c) (b := d') (tx.si.keep c6) (tx.mine.sl.keep c6) tx.f1 (by omega)) ?_
    rintro ⟨r, H7⟩ ⟨e, c7⟩
    simp only at e
    subst e
    simp
  by_cases e5 : q = 5
  · have qr := rowRw_rw tw.row2
    simp only [Cf.cs] at qr
    simp [hr1, q2, s16, hrem, hd0, hdn, hi, hil, hq, e0, e1, e2, e3, e4, e5, qr]
    obtain ⟨G, eG⟩ : ∃ G, G = H5.set H4.length (.cells (({ d with times := x } : Cf).cs (.slice a2' d.ins.length n2' p2')) .rw) := ⟨_, rfl⟩
    have tx : Two G H2.length H4.length v1 (.slice a2' d.ins.length n2' p2') c { d with times := x } := by
      have cc : Chg [H4.length] H5 G := by rw [eG]; exact .set _ _ _
      have nb := tw.ab
      exact ⟨cc.get tw.row1 (by simp; omega), by rw [eG]; exact List.getElem?_set_self (lt_of_get tw.row2), tw.si.chg cc (fun i hi => by have := tw.nv i hi; simp; omega), tw.mine.chg cc (fun i hi => by have := tw.nw i hi; simp; omega), tw.ab, tw.nv, tw.nw, f1, f2⟩
    simp only [Cf.cs] at eG
    rw [← eG]
    generalize ({ d with times := x } : Cf) = d' at tx
    have q3 := rowOf_rw tx.row1
    have q4 := rowOf_rw tx.row2
    simp only [Cf.cs] at q3 q4
    simp [q3, q4]
    refine Hx.mapp (planAll_ok (a := d') (b := c) tx.mine.sl tx.si tx.f2 (by omega)) ?_
    rintro ⟨r, H6⟩ ⟨e, c6⟩
    simp only at e c6
    subst e
    have q3 := rowOf_rw (c6.get tx.row1 (by simp))
    have q4 := rowOf_rw (c6.get tx.row2 (by simp))
    simp only [Cf.cs] at q3 q4
    simp [q3, q4]
    refine Hx.mapp (planAll_ok (a := c) (b := d') (tx.si.keep c6) (tx.mine.sl.keep c6) tx.f1 (by omega)) ?_
    rintro ⟨r, H7⟩ ⟨e, c7⟩
    simp only at e
    subst e
    simp
  by_cases e6 : q = 6
  · have qr := rowRw_rw tw.row2
    simp only [Cf.cs] at qr
    simp [hr1, q2, s16, hrem, hd0, hdn, hi, hil, hq, e0, e1, e2, e3, e4, e5, e6, qr]
    obtain ⟨G, eG⟩ : ∃ G, G = H5.set H4.length (.cells (({ d with port := x } : Cf).cs (.slice a2' d.ins.length n2' p2')) .rw) := ⟨_, rfl⟩
    have tx : Two G H2.length H4.length v1 (.slice a2' d.ins.length n2' p2') c { d with port := x } := by
      have cc : Chg [H4.length] H5 G := by rw [eG]; exact .set _ _ _
      have nb := tw.ab
      exact ⟨cc.get tw.row1 (by simp; omega), by rw [eG]; exact List.getElem?_set_self (lt_of_get tw.row2), tw.si.chg cc (fun i hi => by have := tw.nv i hi; simp; omega), tw.mine.chg cc (fun i hi => by have := tw.nw i hi; simp; omega), tw.ab, tw.nv, tw.nw, f1, f2⟩
    simp only [Cf.cs] at eG
    rw [← eG]
    generalize ({ d with port := x } : Cf) = d' at tx
    have q3 := rowOf_rw tx.row1
    have q4 := rowOf_rw tx.row2
    simp only [Cf.cs] at q3 q4
    simp [q3, q4]
    refine Hx.mapp (planAll_ok (a := d') (b := c) tx.mine.sl tx.si tx.f2 (by omega)) ?_
    rintro ⟨r, H6⟩ ⟨e, c6⟩
    simp only at e c6
    subst e
    have q3 := rowOf_rw (c6.get tx.row1 (by simp))
    have q4 := rowOf_rw (c6.get tx.row2 (by simp))
    simp only [Cf.cs] at q3 q4
    simp [q3, q4]
    refine Hx.mapp (planAll_ok (a := c) (b := d') (tx.si.keep c6) (tx.mine.sl.keep c6) tx.f1 (by omega)) ?_
    rintro ⟨r, H7⟩ ⟨e, c7⟩
    simp only at e
    subst e
    simp
  by_cases e7 : q = 7
  · have qr := rowRw_rw tw.row2
    simp only [Cf.cs] at qr
    simp [hr1, q2, s16, hrem, hd0, hdn, hi, hil, hq, e0, e1, e2, e3, e4, e5, e6, e7, qr]
    obtain ⟨G, eG⟩ : ∃ G, G = H5.set H4.length (.cells (({ d with bid := x } : Cf).cs (.slice a2' d.ins.length n2' p2')) .rw) := ⟨_, rfl⟩
    have tx : Two G H2.length H4.length v1 (.slice a2' d.ins.length n2' p2') c { d with bid := x } := by
      have cc : Chg [H4.length] H5 G := by rw [eG]; exact .set _ _ _
      have nb := tw.ab
      exact ⟨cc.get tw.row1 (by simp; omega), by rw [eG]; exact List.getElem?_set_self (lt_of_get tw.row2), tw.si.chg cc (fun i hi => by have := tw.nv i hi; simp; omega), tw.mine.chg cc (fun i hi => by have := tw.nw i hi; simp; omega), tw.ab, tw.nv, tw.nw, f1, f2⟩
    simp only [Cf.cs] at eG
    rw [← eG]
    generalize ({ d with bid := x } : Cf) = d' at tx
    have q3 := rowOf_rw tx.row1
    have q4 := rowOf_rw tx.row2
    simp only [Cf.cs] at q3 q4
    simp [q3, q4]
    refine Hx.mapp (planAll_ok (a := d') (b := c) tx.mine.sl tx.si tx.f2 (by omega)) ?_
    rintro ⟨r, H6⟩ ⟨e, c6⟩
    simp only at e c6
    subst e
    have q3 := rowOf_rw (c6.get tx.row1 (by simp))
    have q4 := rowOf_rw (c6.get tx.row2 (by simp))
    simp only [Cf.cs] at q3 q4
    simp [q3, q4]
    refine Hx.mapp (planAll_ok (a := c) (b := d') (tx.si.keep c6) (tx.mine.sl.keep c6) tx.f1 (by omega)) ?_
    rintro ⟨r, H7⟩ ⟨e, c7⟩
    simp only at e
    subst e
    simp
  by_cases e8 : q = 8
  · have qr := rowRw_rw tw.row2
    simp only [Cf.cs] at qr
    simp [hr1, q2, s16, hrem, hd0, hdn, hi, hil, hq, e0, e1, e2, e3, e4, e5, e6, e7, e8, qr]
    obtain ⟨G, eG⟩ : ∃ G, G = H5.set H4.length (.cells (({ d with lot := x } : Cf).cs (.slice a2' d.ins.length n2' p2')) .rw) := ⟨_, rfl⟩
    have tx : Two G H2.length H4.length v1 (.slice a2' d.ins.length n2' p2') c { d with lot := x } := by
      have cc : Chg [H4.length] H5 G := by rw [eG]; exact .set _ _ _
      have nb := tw.ab
      exact ⟨cc.get tw.row1 (by simp; omega), by rw [eG]; exact List.getElem?_set_self (lt_of_get tw.row2), tw.si.chg cc (fun i hi => by have := tw.nv i hi; simp; omega), tw.mine.chg cc (fun i hi => by have := tw.nw i hi; simp; omega), tw.ab, tw.nv, tw.nw, f1, f2⟩
    simp only [Cf.cs] at eG
    rw [← eG]
    generalize ({ d with lot := x } : Cf) = d' at tx
    have q3 := rowOf_rw tx.row1
    have q4 := rowOf_rw tx.row2
    simp only [Cf.cs] at q3 q4
    simp [q3, q4]
    refine Hx.mapp (planAll_ok (a := d') (b := c) tx.mine.sl tx.si tx.f2 (by omega)) ?_
    rintro ⟨r, H6⟩ ⟨e, c6⟩
    simp only at e c6
    subst e
    have q3 := rowOf_rw (c6.get tx.row1 (by simp))
    have q4 := rowOf_rw (c6.get tx.row2 (by simp))
    simp only [Cf.cs] at q3 q4
    simp [q3, q4]
    refine Hx.mapp (planAll_ok (a := c) (b := d') (tx.si.keep c6) (tx.mine.sl.keep c6) tx.f1 (by omega)) ?_
    rintro ⟨r, H7⟩ ⟨e, c7⟩
    simp only at e
    subst e
    simp
  by_cases e9 : q = 9
  · have qr := rowRw_rw tw.row2
    simp only [Cf.cs] at qr
    simp [hr1, q2, s16, hrem, hd0, hdn, hi, hil, hq, e0, e1, e2, e3, e4, e5, e6, e7, e8, e9, qr]
    obtain ⟨G, eG⟩ : ∃ G, G = H5.set H4.length (.cells (({ d with hmin := x } : Cf).cs (.slice a2' d.ins.length n2' p2')) .rw) := ⟨_, rfl⟩
    have tx : Two G H2.length H4.length v1 (.slice a2' d.ins.length n2' p2') c { d with hmin := x } := by
      have cc : Chg [H4.length] H5 G := by rw [eG]; exact .set _ _ _
      have nb := tw.ab
      exact ⟨cc.get tw.row1 (by simp; omega), by rw [eG]; exact List.getElem?_set_self (lt_of_get tw.row2), tw.si.chg cc (fun i hi => by have := tw.nv i hi; simp; omega), tw.mine.chg cc (fun i hi => by have := tw.nw i hi; simp; omega), tw.ab, tw.nv, tw.nw, f1, ⟨f2.1, hx⟩⟩
    simp only [Cf.cs] at eG
    rw [← eG]
    generalize ({ d with hmin := x } : Cf) = d' at tx
    have q3 := rowOf_rw tx.row1
    have q4 := rowOf_rw tx.row2
    simp only [Cf.cs] at q3 q4
    simp [q3, q4]
    refine Hx.mapp (planAll_ok (a := d') (b := c) tx.mine.sl tx.si tx.f2 (by omega)) ?_
    rintro ⟨r, H6⟩ ⟨e, c6⟩
    simp only at e c6
    subst e
    have q3 := rowOf_rw (c6.get tx.row1 (by simp))
    have q4 := rowOf_rw (c6.get tx.row2 (by simp))
    simp only [Cf.cs] at q3 q4
    simp [q3, q4]
    refine Hx.mapp (planAll_ok (a := c) (b := d') (tx.si.keep c6) (tx.mine.sl.keep c6) tx.f1 (by omega)) ?_
    rintro ⟨r, H7⟩ ⟨e, c7⟩
    simp only at e
    subst e
    simp
  by_cases e10 : q = 10
  · have qr := rowRw_rw tw.row2
    simp only [Cf.cs] at qr
    simp [hr1, q2, s16, hrem, hd0, hdn, hi, hil, hq, e0, e1, e2, e3, e4, e5, e6, e7, e8, e9, e10, qr]
    obtain ⟨G, eG⟩ : ∃ G, G = H5.set H4.length (.cells (({ d with ins := [] } : Cf).cs (.slice none 0 (some 0) 0)) .rw) := ⟨_, rfl⟩
    have tx : Two G H2.length H4.length v1 (.slice none 0 (some 0) 0) c { d with ins := [] } := by
      have cc : Chg [H4.length] H5 G := by rw [eG]; exact .set _ _ _
      have nb := tw.ab
      exact ⟨cc.get tw.row1 (by simp; omega), by rw [eG]; exact List.getElem?_set_self (lt_of_get tw.row2), tw.si.chg cc (fun i hi => by have := tw.nv i hi; simp; omega), .nil _ _, tw.ab, tw.nv, by simp, f1, f2⟩
    simp only [Cf.cs] at eG
    rw [← eG]
    generalize ({ d with ins := [] } : Cf) = d' at tx
    have q3 := rowOf_rw tx.row1
    have q4 := rowOf_rw tx.row2
    simp only [Cf.cs] at q3 q4
    simp [q3, q4]
    refine Hx.mapp (planAll_ok (a := d') (b := c) tx.mine.sl tx.si tx.f2 (by omega)) ?_
    rintro ⟨r, H6⟩ ⟨e, c6⟩
    simp only at e c6
    subst e
    have q3 := rowOf_rw (c6.get tx.row1 (by simp))
    have q4 := rowOf_rw (c6.get tx.row2 (by simp))
    simp only [Cf.cs] at q3 q4
    simp [q3, q4]
    refine Hx.mapp (planAll_ok (a := c) (b := d') (tx.si.keep c6) (tx.mine.sl.keep c6) tx.f1 (by omega)) ?_
    rintro ⟨r, H7⟩ ⟨e, c7⟩
    simp only at e
    subst e
    simp
  by_cases e11 : q = 11
  · simp [hr1, q2, s16, hrem, hd0, hdn, hi, hil, hq, e0, e1, e2, e3, e4, e5, e6, e7, e8, e9, e10, e11]
    refine hx_drawn dc4_32 fun H6 c6 hl6 hd6 => ?_
    have tw5 := tw
    have tw := (⟨c6.get tw.row1 (by simp), c6.get tw.row2 (by simp), tw.si.keep c6, tw.mine.keep c6, tw.ab, tw.nv, tw.nw, f1, f2⟩ : Two H6 H2.length H4.length _ _ c d)
    have q2 := rowOf_rw tw.row2
    simp only [Cf.cs] at q2
    have hz := hd6 0 (by decide)
    rw [Nat.add_zero] at hz
    have hdb : isDeadB H6[H5.length]? = true := by rw [hz]; rfl
    have hb5 : H4.length < H5.length := lt_of_get tw5.row2
    have hw5 := tw5.mine.lt
    obtain ⟨H7, e7⟩ : ∃ H7, H7 = H6.set H5.length (.cells [] .rw) := ⟨_, rfl⟩
    have tw7 : Two H7 H2.length H4.length _ _ c d := tw.chg (F := [H5.length]) (m := H5.length) (by rw [e7]; exact .set _ _ _) (by simp) hb5 hw5
    have q7 := rowOf_rw tw7.row2
    simp only [Cf.cs] at q7
    have ow : Mine H7 4 (.slice (some (H5.length, 0)) 0 (some 0) 4) [] := .row _ 0 _ [] _ (by omega) (by rw [e7]; exact List.getElem?_set_self (lt_of_get hz)) (by simp) (by simp) (by simp)
    rw [e7] at q7
    simp [d4_32, q2, hdb, q7]
    rw [← e7]
    have hl7 : H5.length ≤ H7.length := by rw [e7]; simp; omega
    refine Hx.mapp (ow.append tw7.mine.sl (by omega) (by omega) (insC_one _) (by simp; unfold room; omega)) ?_
    rintro ⟨y1, H8⟩ ⟨m8, c8, k8⟩
    simp only [List.nil_append] at m8 c8 k8
    have ny1 : ∀ i ∈ blk y1, H5.length ≤ i := fun i hi => (k8 i hi).elim (fun h => by simp at h; omega) (fun h => by omega)
    have tw8 := tw7.chg (m := H5.length) c8 (by simp) hb5 hw5
    have q8 := rowOf_rw tw8.row2
    simp only [Cf.cs] at q8
    simp [q8]
    refine Hx.mapp (m8.append tw8.mine.sl (by omega) (by omega) (insC_one _) (by simp; unfold room; omega)) ?_
    rintro ⟨y2, H9⟩ ⟨m9, c9, k9⟩
    simp only at m9 c9 k9
    have ny2 : ∀ i ∈ blk y2, H5.length ≤ i := fun i hi => (k9 i hi).elim (ny1 i) (fun h => by have := c8.1; omega)
    have tw9 := tw8.chg (m := H5.length) c9 ny1 hb5 hw5
    have q9 := rowOf_rw tw9.row2
    simp only [Cf.cs] at q9
    simp [q9]
    refine Hx.mapp (m9.append tw9.mine.sl (by omega) (by omega) (insC_one _) (by simp; unfold room; omega)) ?_
    rintro ⟨y3, H10⟩ ⟨m10, c10, k10⟩
    simp only at m10 c10 k10
    have ny3 : ∀ i ∈ blk y3, H5.length ≤ i := fun i hi => (k10 i hi).elim (ny2 i) (fun h => by have := c8.1; have := c9.1; omega)
    have tw10 := tw9.chg (m := H5.length) c10 ny2 hb5 hw5
    have q10 := rowOf_rw tw10.row2
    have qr := rowRw_rw tw10.row2
    simp only [Cf.cs] at q10 qr
    have o3 : ∃ a n c s, y3 = .slice a n c s := by obtain ⟨a, n, c, s, e, _⟩ := m10.sl.form; exact ⟨a, n, c, s, e⟩
    obtain ⟨ya, yn, yc, ys, rfl⟩ := o3
    simp [q8, q9, q10, qr]
    obtain ⟨G, eG⟩ : ∃ G, G = H10.set H4.length (.cells (({ d with ins := d.ins ++ d.ins ++ d.ins } : Cf).cs (.slice ya yn yc ys)) .rw) := ⟨_, rfl⟩
    have tx : Two G H2.length H4.length v1 (.slice ya yn yc ys) c { d with ins := d.ins ++ d.ins ++ d.ins } := by
      have cc : Chg [H4.length] H10 G := by rw [eG]; exact .set _ _ _
      have nb := tw.ab
      exact ⟨cc.get tw10.row1 (by simp; omega), by rw [eG]; exact List.getElem?_set_self (lt_of_get tw10.row2), tw10.si.chg cc (fun i hi => by have := tw.nv i hi; simp; omega), by simp only [insC_app]; exact m10.chg cc (fun i hi => by have := ny3 i hi; simp; omega), tw.ab, tw.nv, (fun i hi => by have := ny3 i hi; omega), f1, f2⟩
    simp only [Cf.cs] at eG
    rw [← eG]
    generalize ({ d with ins := d.ins ++ d.ins ++ d.ins } : Cf) = d' at tx
    have q3 := rowOf_rw tx.row1
    have q4 := rowOf_rw tx.row2
    simp only [Cf.cs] at q3 q4
    simp [q3, q4]
    refine Hx.mapp (planAll_ok (a := d') (b := c) tx.mine.sl tx.si tx.f2 (by omega)) ?_
    rintro ⟨r, H6⟩ ⟨e, c6⟩
    simp only at e c6
    subst e
    have q3 := rowOf_rw (c6.get tx.row1 (by simp))
    have q4 := rowOf_rw (c6.get tx.row2 (by simp))
    simp only [Cf.cs] at q3 q4
    simp [q3, q4]
    refine Hx.mapp (planAll_ok (a := c) (b := d') (tx.si.keep c6) (tx.mine.sl.keep c6) tx.f1 (by omega)) ?_
    rintro ⟨r, H7⟩ ⟨e, c7⟩
    simp only at e
    subst e
    simp
  · simp [hr1, q2, s16, hrem, hd0, hdn, hi, hil, hq, e0, e1, e2, e3, e4, e5, e6, e7, e8, e9, e10, e11]
    obtain ⟨G, eG⟩ : ∃ G, G = H5 := ⟨_, rfl⟩
    have tx : Two G H2.length H4.length v1 (.slice a2' d.ins.length n2' p2') c d := by rw [eG]; exact tw
    rw [← eG]
    have q3 := rowOf_rw tx.row1
    have q4 := rowOf_rw tx.row2
    simp only [Cf.cs] at q3 q4
    simp [q3, q4]
    refine Hx.mapp (planAll_ok (a := d) (b := c) tx.mine.sl tx.si tx.f2 (by omega)) ?_
    rintro ⟨r, H6⟩ ⟨e, c6⟩
    simp only at e c6
    subst e
    have q3 := rowOf_rw (c6.get tx.row1 (by simp))
    have q4 := rowOf_rw (c6.get tx.row2 (by simp))
    simp only [Cf.cs] at q3 q4
    simp [q3, q4]
    refine Hx.mapp (planAll_ok (a := c) (b := d) (tx.si.keep c6) (tx.mine.sl.keep c6) tx.f1 (by omega)) ?_
    rintro ⟨r, H7⟩ ⟨e, c7⟩
    simp only at e
    subst e
    simp
end
end Go.Proofs.Ytndgfpknegoleaa.T
