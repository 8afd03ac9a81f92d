import Derived.Test.YtpinfljbccjbkaaGL103
section
/-! Orders: which rows may be; are rows alike? -/
set_option linter.unusedVariables false
set_option linter.unusedSimpArgs false
set_option maxHeartbeats 4000000
set_option maxRecDepth 100000
namespace Go.Proofs.Ytpinfljbccjbkaa.T.Qu
open Go Go.Ab
section
variable {k : Nat} {H : AH}
theorem right_ok {v : AV} {l : List Od} (h : SO H v l) (hl : l.length ≤ 1000000) (hk : l.length + 10 < k) : callA ap k (.func 12 [] []) [v] 0 H = some (.bool (rightL l), H) := by
  obtain ⟨k, rfl⟩ : ∃ k', k = k' + 2 := ⟨k - 2, by omega⟩
  refine Hx.eqn ?_
  rw [hx_gg fn12 rfl, b12]
  obtain ⟨a, c, s, rfl⟩ := h.form
  simp
  refine hx_up (fun i st => ∃ H', st = ⟨sp 34 [(0, .slice a l.length c s), (5, .slice a l.length c s), (6, .int .i64 l.length), (7, .int .i64 i)], H', []⟩ ∧ Chg [] H H' ∧ ordB l i = true) l.length ?_ ?_ (by omega) ⟨H, by simp [maskS], .refl, rfl⟩
  · rintro i st hi ⟨H2, rfl, c2, ho⟩
    obtain ⟨b, o, c', r, e, g0, g⟩ := SO.all (h.keep c2) (by intro h; simp [h] at hi)
    cases e
    obtain ⟨g1, g2, g3⟩ := g i hi
    have hi' : (i : Int) < l.length := by omega
    have w : IntKind.i64.wrap ((i : Int) + 1) = (i : Int) + 1 := wrap_i64 (by omega) (by omega)
    obtain ⟨x, hx⟩ : ∃ x, x = l[i] := ⟨_, rfl⟩
    rw [← hx] at g2 g3
    obtain ⟨G, eG⟩ : ∃ G, G = H2 ++ [.cells x.cs .rw] := ⟨_, rfl⟩
    have cG : Chg [] H2 G := by rw [eG]; exact .app _ _
    have rG : G[H2.length]? = some (.cells x.cs .rw) := by rw [eG]; simp
    have ox := fun (H : AH) => @order_ok k H x
    simp only [Od.cs] at eG g2 g3 ox rG
    simp [hi', hi, g0, g1, g2]
    rw [← eG]
    refine hx_drawn dc12_4 fun H3 c3 _ _ => ?_
    have r3 := rowOf_rw (c3.get rG (by simp))
    have g3' := (cG.tr c3).row g0 (by simp)
    cases hr : rightO x with
    | false =>
      have hno : ordB l (i + 1) = false := by rw [ordB, getd hi, ← hx, hr]; simp
      simp [d12_4, r3, ox, hr, rightL, ordB_no hno _ hi, gcF_flat, (c2.tr cG).tr c3]
    | true =>
      by_cases h0 : i = 0
      · subst h0
        have hyes : ordB l 1 = true := by rw [ordB, ho, getd hi, ← hx, hr]; simp
        simp [d12_4, r3, ox, hr, maskS]
        exact ⟨H3, ⟨wrap_i64 (by omega) (by omega), rfl⟩, (c2.tr cG).tr c3, hyes⟩
      · obtain ⟨j, rfl⟩ : ∃ j, i = j + 1 := ⟨i - 1, by omega⟩
        obtain ⟨f1, f2, f3⟩ := g j (by omega)
        obtain ⟨y, hy⟩ : ∃ y, y = l[j] := ⟨_, rfl⟩
        rw [← hy] at f3
        have f30 := f3 0 (by omega)
        simp only [Od.cs, Nat.add_zero, List.getElem?_cons_zero] at f30
        have hj : (j : Int) < l.length := by omega
        have hj0 : (0 : Int) < (j : Int) + 1 := by omega
        have w1 : IntKind.i64.wrap (j : Int) = (j : Int) := wrap_i64 (by omega) (by omega)
        by_cases hlt : y.id < x.id
        · have hyes : ordB l (j + 1 + 1) = true := by rw [ordB, ho, getd hi, ← hx, hr, Nat.add_sub_cancel, getd (by omega : j < l.length), ← hy]; simp [hlt]
          have hn : ¬ x.id ≤ y.id := by omega
          simp [d12_4, r3, ox, hr, maskS, w, w1, hj, hj0, g3', f30, hn]
          exact ⟨H3, ⟨wrap_i64 (by omega) (by omega), rfl⟩, (c2.tr cG).tr c3, hyes⟩
        · have hno : ordB l (j + 1 + 1) = false := by rw [ordB, ho, getd hi, ← hx, hr, Nat.add_sub_cancel, getd (by omega : j < l.length), ← hy]; simp [hlt]
          have hn : x.id ≤ y.id := by omega
          simp [d12_4, r3, ox, hr, w, w1, hj, hj0, g3', f30, hn, rightL, ordB_no hno _ hi, gcF_flat, (c2.tr cG).tr c3]
  · rintro st ⟨H2, rfl, c2, ho⟩
    simp [rightL, ho, gcF_flat, c2]
    omega
end
end Go.Proofs.Ytpinfljbccjbkaa.T.Qu
end
section
/-! Orders: which two cross. -/
set_option linter.unusedVariables false
set_option linter.unusedSimpArgs false
set_option maxHeartbeats 4000000
set_option maxRecDepth 100000
namespace Go.Proofs.Ytpinfljbccjbkaa.T.Qu
open Go Go.Ab
section
variable {k : Nat} {H : AH}
def reachB (o : Od) (p : Int) : Bool := if o.side = 1 then decide (p ≤ o.p) else decide (o.p ≤ p)
def crossB (a b : Od) : Bool := rightO a && (rightO b && (decide (a.inst = b.inst) && (!decide (a.side = b.side) && (!decide (a.acc = b.acc) && reachB a b.p))))
section
variable {id acc inst side q p : Int}
theorem order_u : callA ap (k + 1) (.func 22 [] []) [.agg [.int .i64 id, .int .i64 acc, .int .i64 inst, .int .i64 side, .int .i64 q, .int .i64 p]] 0 H = some (.bool (rightO ⟨id, acc, inst, side, q, p⟩), H) := order_ok (o := ⟨id, acc, inst, side, q, p⟩)
theorem rorder_u : callA ap (k + 2) (.func 30 [] []) [.agg [.int .i64 id, .int .i64 acc, .int .i64 inst, .int .i64 side, .int .i64 q, .int .i64 p]] 0 H = some (.bool (rightO ⟨id, acc, inst, side, q, p⟩), H) := rorder_ok (o := ⟨id, acc, inst, side, q, p⟩)
end
theorem rorders_ok {v : AV} {l : List Od} (h : SO H v l) (hl : l.length ≤ 1000000) (hk : l.length + 10 < k) : callA ap k (.func 29 [] []) [v] 0 H = some (.bool (rightL l), H) := by
  obtain ⟨k, rfl⟩ : ∃ k', k = k' + 4 := ⟨k - 4, by omega⟩
  refine Hx.eqn ?_
  rw [hx_gg fn29 rfl, b29]
  obtain ⟨a, c, s, rfl⟩ := h.form
  by_cases h32 : 32 < (l.length : Int)
  · have : ¬ l.length ≤ 32 := by omega
    simp [h32, rightL, this]
  have h32' : l.length ≤ 32 := by omega
  simp [h32]
  refine hx_up (fun i st => ∃ H', st = ⟨sp 37 [(0, .slice a l.length c s), (3, .int .i64 i)], H', []⟩ ∧ Chg [] H H' ∧ ordB l i = true) l.length ?_ ?_ (by omega) ⟨H, by simp [maskS], .refl, rfl⟩
  · rintro i st hi ⟨H2, rfl, c2, ho⟩
    have hi' : (i : Int) < l.length := by omega
    have w : IntKind.i64.wrap ((i : Int) + 1) = (i : Int) + 1 := wrap_i64 (by omega) (by omega)
    simp [hi', hi]
    refine hx_drawn dc29_6 fun H3 c3 _ _ => ?_
    obtain ⟨b, o, c', r, e, g0, g⟩ := SO.all (h.keep (c2.tr c3)) (by intro h; simp [h] at hi)
    cases e
    obtain ⟨g1, g2, g3⟩ := g i hi
    obtain ⟨x, hx⟩ : ∃ x, x = l[i] := ⟨_, rfl⟩
    rw [← hx] at g2 g3
    have g30 := g3 0 (by omega)
    have ox := fun (k : Nat) (H : AH) => @rorder_ok k H x
    simp only [Od.cs, Nat.add_zero, List.getElem?_cons_zero] at g2 g30 ox
    cases hr : rightO x with
    | false =>
      have hno : ordB l (i + 1) = false := by rw [ordB, getd hi, ← hx, hr]; simp
      simp [d29_6, hi', hi, g0, g1, g2, ox, hr, rightL, ordB_no hno _ hi, gcF_flat, c2.tr c3]
    | true =>
      by_cases h0 : i = 0
      · subst h0
        have hyes : ordB l 1 = true := by rw [ordB, ho, getd hi, ← hx, hr]; simp
        simp only [Nat.zero_mul, Nat.add_zero] at g1 g2
        simp [d29_6, hi', hi, g0, g1, g2, ox, hr, maskS]
        exact ⟨H3, ⟨wrap_i64 (by omega) (by omega), rfl⟩, c2.tr c3, hyes⟩
      · obtain ⟨j, rfl⟩ : ∃ j, i = j + 1 := ⟨i - 1, by omega⟩
        obtain ⟨f1, f2, f3⟩ := g j (by omega)
        obtain ⟨y, hy⟩ : ∃ y, y = l[j] := ⟨_, rfl⟩
        rw [← hy] at f3
        have f30 := f3 0 (by omega)
        simp only [Od.cs, Nat.add_zero, List.getElem?_cons_zero] at f30
        have hj : (j : Int) < l.length := by omega
        have hj1 : (j : Int) + 1 < l.length := by omega
        have hj0 : (0 : Int) < (j : Int) + 1 := by omega
        have hj2 : (0 : Int) ≤ (j : Int) + 1 := by omega
        have w1 : IntKind.i64.wrap (j : Int) = (j : Int) := wrap_i64 (by omega) (by omega)
        by_cases hlt : y.id < x.id
        · have hyes : ordB l (j + 1 + 1) = true := by rw [ordB, ho, getd hi, ← hx, hr, Nat.add_sub_cancel, getd (by omega : j < l.length), ← hy]; simp [hlt]
          have hn : ¬ x.id ≤ y.id := by omega
          simp [d29_6, hi, hj1, hj2, g0, g1, g2, g30, ox, hr, maskS, w, w1, hj, hj0, f30, hn]
          exact ⟨H3, ⟨wrap_i64 (by omega) (by omega), rfl⟩, c2.tr c3, hyes⟩
        · have hno : ordB l (j + 1 + 1) = false := by rw [ordB, ho, getd hi, ← hx, hr, Nat.add_sub_cancel, getd (by omega : j < l.length), ← hy]; simp [hlt]
          have hn : x.id ≤ y.id := by omega
          simp [d29_6, hi, hj1, hj2, g0, g1, g2, g30, ox, hr, w, w1, hj, hj0, f30, hn, rightL, ordB_no hno _ hi, gcF_flat, c2.tr c3]
  · rintro st ⟨H2, rfl, c2, ho⟩
    simp [rightL, ho, gcF_flat, c2, h32']
end
end Go.Proofs.Ytpinfljbccjbkaa.T.Qu
end
section
/-! Rows of orders, of trades: are they alike? Written by queue/alike.py. -/
set_option linter.unusedVariables false
set_option linter.unusedSimpArgs false
set_option maxHeartbeats 4000000
set_option maxRecDepth 100000
namespace Go.Proofs.Ytpinfljbccjbkaa.T.Qu
open Go Go.Ab
section
variable {k : Nat} {H : AH}
theorem eqOd {p q : Od} : eqF ap 0 [(0, 2), (1, 3), (2, 3), (3, 3), (4, 2), (5, 2)] [AV.int .i64 p.id, AV.int .i64 p.acc, AV.int .i64 p.inst, AV.int .i64 p.side, AV.int .i64 p.q, AV.int .i64 p.p] [AV.int .i64 q.id, AV.int .i64 q.acc, AV.int .i64 q.inst, AV.int .i64 q.side, AV.int .i64 q.q, AV.int .i64 q.p] = some (decide (p = q)) := by
  obtain ⟨_, _, _, _, _, _⟩ := p
  obtain ⟨_, _, _, _, _, _⟩ := q
  simp [eqF, eqC]
  rw [Bool.eq_iff_iff]
  simp
theorem orders_eq {v w : AV} {l m : List Od} (ha : SO H v l) (hb : SO H w m) (hl : l.length ≤ 1000000) (hl2 : m.length ≤ 1000000) (hk : l.length + 10 < k) : callA ap k (.func 17 [] []) [v, w] 0 H = some (.bool (decide (l = m)), H) := by
  obtain ⟨k, rfl⟩ : ∃ k', k = k' + 1 := ⟨k - 1, by omega⟩
  refine Hx.eqn ?_
  rw [hx_gg fn17 rfl, b17]
  obtain ⟨x, c, s, rfl⟩ := SO.form ha
  obtain ⟨x', c', s', rfl⟩ := SO.form hb
  by_cases hn : l.length = m.length
  · simp [hn]
    refine hx_up (fun i s1 => ∃ H', s1 = ⟨sp 26 [(0, .slice x m.length c s), (1, .slice x' m.length c' s'), (5, .int .i64 i)], H', []⟩ ∧ Chg [] H H' ∧ ∀ j (h1 : j < l.length) (h2 : j < m.length), j < i → l[j] = m[j]) m.length ?_ ?_ (by omega) ⟨H, rfl, .refl, by simp⟩
    · rintro i _ hi ⟨H', rfl, c1, hq⟩
      have hw : IntKind.i64.wrap ((i : Int) + 1) = ((i + 1 : Nat) : Int) := by rw [wrap_i64 (by omega) (by omega)]; omega
      simp [hi]
      refine hx_drawn dc17_6 fun H1 c2 _ _ => ?_
      have hi' : i < l.length := hn ▸ hi
      have c3 := c1.tr c2
      obtain ⟨b0, o0, c0, r0, e0, g0, gg⟩ := SO.all (ha.keep c3) (by intro h; simp [h] at hi')
      obtain ⟨b1, o1, c1', r1, e1, g2, gg'⟩ := SO.all (hb.keep c3) (by intro h; simp [h] at hi)
      obtain ⟨ga, g1, -⟩ := gg i hi'
      obtain ⟨gb, g3, -⟩ := gg' i hi
      injection e0 with z1 z2 z3 z4
      subst z1 z3 z4
      injection e1 with z1 z2 z3 z4
      subst z1 z3 z4
      have hup : l[i] = m[i] → ∀ j (h1 : j < l.length) (h2 : j < m.length), j < i + 1 → l[j] = m[j] := fun he j h1 h2 hj => by
        rcases Nat.lt_succ_iff_lt_or_eq.1 hj with hj | rfl
        · exact hq j h1 h2 hj
        · exact he
      have hne : ¬ l[i] = m[i] → ¬ l = m := fun h e => h (by subst e; rfl)
      generalize l[i] = p at *
      generalize m[i] = q at *
      simp only [Od.cs] at g1 g3
      by_cases he : p = q
      · subst he
        simp [d17_6, hi, g0, g1, g2, g3, ga, gb, hw, eqV, eqOd]
        exact ⟨H1, rfl, c3, hup rfl⟩
      · simp [d17_6, hi, g0, g1, g2, g3, ga, gb, hw, hne he, eqV, eqOd, he, gcF_flat, c3]
    · rintro _ ⟨H', rfl, c1, hq⟩
      have he : l = m := List.ext_getElem hn fun j h1 h2 => hq j h1 h2 h2
      simp [he, gcF_flat, c1]
  · have hne : ¬ l = m := fun e => hn (by rw [e])
    have hn' : ¬ (l.length : Int) = (m.length : Int) := by omega
    simp [hn', hne]
end
end Go.Proofs.Ytpinfljbccjbkaa.T.Qu
end
section
/-! Is there an order of a kind; do any cross? -/
set_option linter.unusedVariables false
set_option linter.unusedSimpArgs false
set_option maxHeartbeats 4000000
set_option maxRecDepth 100000
namespace Go.Proofs.Ytpinfljbccjbkaa.T.Qu
open Go Go.Ab
section
variable {k : Nat} {H : AH}
/-- Where the first one is. -/
def idxF (P : Od → Bool) (l : List Od) : Int := match l.findIdx? P with
  | some i => i
  | none => -1
theorem indexFunc_ok {v g : AV} {l : List Od} {P : Od → Bool} (h : SO H v l) (hx : extOf ap g = none) (hl : l.length ≤ 1000000) (hg : ∀ H' x, Chg [] H H' → callA ap k g [.agg (Od.cs x)] 0 H' = some (.bool (P x), H')) (hk : l.length + 10 < k) :
    callA ap (k + 1) (.func 35 [] []) [v, g] 0 H = some (.int .i64 (idxF P l), H) := by
  refine Hx.eqn ?_
  rw [hx_gg fn35 rfl, b35]
  obtain ⟨a, c, s, rfl⟩ := h.form
  simp
  refine hx_up (fun i st => ∃ H', st = ⟨sp 19 [(0, .slice a l.length c s), (1, g), (7, .int .i64 l.length), (8, .int .i64 i)], H', []⟩ ∧ Chg [] H H' ∧ ∀ j (hj : j < l.length), j < i → P l[j] = false) l.length ?_ ?_ (by omega) ⟨H, by simp [maskS], .refl, by simp⟩
  · rintro i st hi ⟨H2, rfl, c2, ho⟩
    have hi' : (i : Int) < l.length := by omega
    have w : IntKind.i64.wrap ((i : Int) + 1) = (i : Int) + 1 := wrap_i64 (by omega) (by omega)
    obtain ⟨b, o, c', r, e, g0, gg⟩ := SO.all (h.keep c2) (by intro h; simp [h] at hi)
    cases e
    obtain ⟨g1, g2, -⟩ := gg i hi
    obtain ⟨x, hxx⟩ : ∃ x, x = l[i] := ⟨_, rfl⟩
    rw [← hxx] at g2
    have hgx := hg H2 x c2
    have hlx : l[i]? = some x := by rw [hxx]; exact List.getElem?_eq_getElem hi
    simp only [Od.cs] at g2 hgx
    cases hp : P x with
    | true =>
      have hid : idxF P l = (i : Int) := by
        have : l.findIdx? P = some i := by
          rw [List.findIdx?_eq_some_iff_getElem]
          exact ⟨hi, by rw [← hxx]; exact hp, fun j hj => by simp [ho j (by omega) hj]⟩
        simp [idxF, this]
      rw [hp] at hgx
      simp [hi', hi, g0, g1, g2, hx, hgx, hid, gcF_flat, c2]
    | false =>
      rw [hp] at hgx
      simp [hi', hi, g0, g1, g2, hx, hgx, maskS, w]
      refine ⟨c2, fun j hj hji => ?_⟩
      by_cases hjj : j = i
      · subst hjj; rw [← hxx]; exact hp
      · exact ho j hj (by omega)
  · rintro st ⟨H2, rfl, c2, ho⟩
    have hid : idxF P l = -1 := by
      have : l.findIdx? P = none := by
        rw [List.findIdx?_eq_none_iff]
        intro x hx
        obtain ⟨j, hj, rfl⟩ := List.getElem_of_mem hx
        exact ho j hj hj
      simp [idxF, this]
    simp [hid, gcF_flat, c2]
theorem idxF_any {P : Od → Bool} {l : List Od} : decide (0 ≤ idxF P l) = l.any P := by
  unfold idxF
  cases h : l.findIdx? P with
  | none =>
    rw [List.findIdx?_eq_none_iff] at h
    have : l.any P = false := by
      rw [List.any_eq_false]
      intro x hx
      simp [h x hx]
    simp [this]
  | some i =>
    rw [List.findIdx?_eq_some_iff_getElem] at h
    obtain ⟨h1, h2, h3⟩ := h
    have : l.any P = true := List.any_eq_true.2 ⟨l[i], List.getElem_mem h1, h2⟩
    simp [this]
def dropTake (l : List Od) (i : Nat) : List Od := l.take i
theorem so_take {v : AV} {l : List Od} (h : SO H v l) {i : Nat} (hi : i ≤ l.length) : ∃ v', aslice H 6 v none (some (.int .i64 i)) none = some v' ∧ SO H v' (l.take i) := by
  obtain ⟨v', h1, h2, -, -⟩ := h.cut (low := none) (high := some (.int .i64 (i : Int))) (by omega) (lo := 0) (hi := i) (by omega) (by rw [odsC_len]; omega) rfl (fun _ _ => rfl)
  rw [Nat.zero_mul, List.drop_zero] at h2
  refine ⟨v', h1, ?_⟩
  have : (odsC l).take (i * 6) = odsC (l.take i) := by
    conv => lhs; rw [← List.take_append_drop i l, odsC_app]
    rw [List.take_left' (by rw [odsC_len, List.length_take]; omega)]
  rw [this] at h2
  exact h2
end
end Go.Proofs.Ytpinfljbccjbkaa.T.Qu
end
section
/-! The order in which orders are met: the program's. -/
set_option linter.unusedVariables false
set_option linter.unusedSimpArgs false
set_option maxHeartbeats 4000000
set_option maxRecDepth 100000
namespace Go.Proofs.Ytpinfljbccjbkaa.T.Qu
open Go Go.Ab
def betterB (a b : Od) : Bool := if a.side = 1 then decide (b.p < a.p) else decide (a.p < b.p)
/-- Behind which of the first j it stands. -/
def atP (own : List Od) (o : Od) : Nat → Nat
  | 0 => 0
  | j + 1 => if betterB o (own.getD j dO) = true then atP own o j else j + 1
theorem atP_le (own : List Od) (o : Od) : ∀ j, atP own o j ≤ j
  | 0 => Nat.le_refl _
  | j + 1 => by
    rw [atP]
    split
    · exact Nat.le_succ_of_le (atP_le own o j)
    · exact Nat.le_refl _
def insP (own : List Od) (o : Od) : List Od := own.take (atP own o own.length) ++ o :: own.drop (atP own o own.length)
@[simp] theorem insP_len (own : List Od) (o : Od) : (insP own o).length = own.length + 1 := by
  have := atP_le own o own.length
  simp [insP]
  omega
def walkN (l : List Od) (inst side : Int) : Nat → List Od
  | 0 => []
  | n + 1 => if (l.getD n dO).inst = inst ∧ (l.getD n dO).side = side then insP (walkN l inst side n) (l.getD n dO) else walkN l inst side n
theorem walkN_len (l : List Od) (inst side : Int) : ∀ n, (walkN l inst side n).length ≤ n
  | 0 => Nat.le_refl _
  | n + 1 => by
    have := walkN_len l inst side n
    rw [walkN]
    split
    · simp; omega
    · omega
def walkB (l : List Od) (inst side : Int) : List Od := if rightL l = true then walkN l inst side l.length else []
section
variable {k : Nat} {H : AH}
theorem better_u {id acc inst side q p id' acc' inst' side' q' p' : Int} : callA ap (k + 1) (.func 31 [] []) [.agg [.int .i64 id, .int .i64 acc, .int .i64 inst, .int .i64 side, .int .i64 q, .int .i64 p], .agg [.int .i64 id', .int .i64 acc', .int .i64 inst', .int .i64 side', .int .i64 q', .int .i64 p']] 0 H =
    some (.bool (betterB ⟨id, acc, inst, side, q, p⟩ ⟨id', acc', inst', side', q', p'⟩), H) := by
  refine Hx.eqn ?_
  rw [hx_gg fn31 rfl, b31]
  by_cases h : side = 1
  · subst h; simp [betterB]
  · simp [betterB, h]
/-- A row of one's own, grown by slices.Insert. -/
def OwnS (H : AH) (w : AV) (l : List Od) : Prop := (∃ c s, w = .slice none 0 c s ∧ l = []) ∨ ∃ b, w = .slice (some (b, 0)) l.length none 6 ∧ H[b]? = some (.cells (odsC l) .rw)
theorem OwnS.so {w : AV} {l : List Od} (h : OwnS H w l) : SO H w l := by
  rcases h with ⟨c, s, rfl, rfl⟩ | ⟨b, rfl, h⟩
  · exact .nil _ _
  · exact SL.mk (by omega) (rowOf_rw h) (by simp; omega) (by simp)
theorem OwnS.chg {F : List Nat} {H' : AH} {w : AV} {l : List Od} (h : OwnS H w l) (c : Chg F H H') (hF : ∀ i ∈ blk w, i ∉ F) : OwnS H' w l := by
  rcases h with h | ⟨b, rfl, h⟩
  · exact .inl h
  · exact .inr ⟨b, rfl, c.get h (hF b (by simp))⟩
theorem odsC_take (l : List Od) (i : Nat) : (odsC l).take (i * 6) = odsC (l.take i) := by
  by_cases hi : i ≤ l.length
  · conv => lhs; rw [← List.take_append_drop i l, odsC_app]
    rw [List.take_left' (by rw [odsC_len, List.length_take]; omega)]
  · rw [List.take_of_length_le (by rw [odsC_len]; omega), List.take_of_length_le (by omega)]
theorem odsC_drop (l : List Od) (i : Nat) : (odsC l).drop (i * 6) = odsC (l.drop i) := by
  by_cases hi : i ≤ l.length
  · conv => lhs; rw [← List.take_append_drop i l, odsC_app]
    rw [List.drop_left' (by rw [odsC_len, List.length_take]; omega)]
  · rw [List.drop_eq_nil_of_le (by rw [odsC_len]; omega), List.drop_eq_nil_of_le (by omega)]
    rfl
theorem call_ins {args : List AV} {lo : Nat} : callA ap (k + 1) (.func 32 [] []) args lo H = insX 6 args lo H := by
  have hp : ap.prim 32 = some (insX 6) := rfl
  simp only [callA, hp, List.nil_append, List.append_nil]
theorem insert_ok {w : AV} {own : List Od} {bv i : Nat} {o : Od} (h : OwnS H w own) (hv : H[bv]? = some (.cells o.cs .pl)) (hi : i ≤ own.length) (hl : own.length ≤ 1000000) (hb : bv ∉ blk w) :
    ∃ w' H', callA ap (k + 1) (.func 32 [] []) [w, .int .i64 i, .slice (some (bv, 0)) 1 (some 1) 6] 0 H = some (w', H') ∧ OwnS H' w' (own.take i ++ o :: own.drop i) ∧ Chg (blk w) H H' ∧ (∀ b ∈ blk w', H.length ≤ b) := by
  rw [call_ins]
  unfold insX
  simp only [hv]
  rw [if_pos (by simp [Od.cs])]
  rcases h with ⟨c, s, rfl, rfl⟩ | ⟨b, rfl, h⟩
  · have : i = 0 := by simpa using hi
    subst this
    refine ⟨.slice (some (H.length, 0)) 1 none 6, H ++ [.cells o.cs .rw], ?_, .inr ⟨H.length, by simp, by simp [odsC]⟩, .app _ _, by simp⟩
    simp
  · have hbv : bv ≠ b := fun e => hb (by simp [e])
    simp only [h]
    rw [if_pos ⟨⟨trivial, by omega, by simpa using hi, by simp; omega⟩, by
      rw [List.take_of_length_le (by simp; omega)]; exact odsC_one own, odsC_refs own, hl, hbv⟩]
    have hlt := lt_of_get h
    refine ⟨_, _, rfl, .inr ⟨H.length, ?_, ?_⟩, ?_, by simp⟩
    · have : (own.take i ++ o :: own.drop i).length = own.length + 1 := by simp; omega
      rw [this]
    · rw [List.getElem?_append_right (by simp)]
      have e1 : newR 6 own.length i (odsC own) o.cs = odsC (own.take i ++ o :: own.drop i) := by
        rw [newR, odsC_take, List.take_of_length_le (by simp; omega : (odsC own).length ≤ own.length * 6), odsC_drop, odsC_app, List.append_assoc]
        rfl
      simp [e1]
    · exact ((Chg.set H b _).trans (.app (F := []) _ _) (by simp)).mono (by simp)
theorem walk_ok {v : AV} {l : List Od} {inst side : Int} (h : SO H v l) (hl : l.length ≤ 1000000) (hk : l.length + 30 < k) :
    Hx (callA ap k (.func 14 [] []) [v, .int .i64 inst, .int .i64 side] 0 H) fun r => ∃ c w, r.1 = .func 33 [] [.ptr (some (c, 0))] ∧ Chg [] H r.2 ∧ H.length ≤ c ∧ r.2[c]? = some (.cells [w] .rw) ∧ OwnS r.2 w (walkB l inst side) ∧ ∀ i ∈ blk w, H.length ≤ i := by
  obtain ⟨k, rfl⟩ : ∃ k', k = k' + 7 := ⟨k - 7, by omega⟩
  rw [hx_go fn14 rfl, b14]
  obtain ⟨a, c, s, rfl⟩ := h.form
  simp
  obtain ⟨G, eG⟩ : ∃ G, G = H ++ [.cells [.slice none 0 (some 0) 0] .rw] := ⟨_, rfl⟩
  have cG : Chg [] H G := by rw [eG]; exact .app _ _
  have gG : G[H.length]? = some (.cells [.slice none 0 (some 0) 0] .rw) := by rw [eG]; simp
  have hr := right_ok (k := k + 6) (h.keep cG) hl (by omega)
  rw [← eG]
  cases hrr : rightL l with
  | false =>
    simp [hr, hrr, walkB]
    exact ⟨cG, _, gG, .inl ⟨_, _, rfl, rfl⟩, by simp⟩
  | true =>
    simp [hr, hrr]
    refine hx_up (fun i st => ∃ H' w, st = ⟨sp 51 [(1, .int .i64 inst), (2, .int .i64 side), (7, .ptr (some (H.length, 0))), (13, .slice a l.length c s), (14, .int .i64 l.length), (15, .int .i64 i)], H', []⟩ ∧ Chg [] H H' ∧ H'[H.length]? = some (.cells [w] .rw) ∧ OwnS H' w (walkN l inst side i) ∧ ∀ b ∈ blk w, H.length < b) l.length ?_ ?_ (by omega) ⟨G, _, by simp [maskS], cG, gG, .inl ⟨_, _, rfl, rfl⟩, by simp⟩
    · rintro i st hi ⟨H2, w, rfl, c2, gw, ho, hb⟩
      have hi' : (i : Int) < l.length := by omega
      have wi : IntKind.i64.wrap ((i : Int) + 1) = (i : Int) + 1 := wrap_i64 (by omega) (by omega)
      obtain ⟨b, o, c', r, e, g0, gg⟩ := SO.all (h.keep c2) (by intro h; simp [h] at hi)
      cases e
      obtain ⟨g1, g2, -⟩ := gg i hi
      obtain ⟨x, hxx⟩ : ∃ x, x = l[i] := ⟨_, rfl⟩
      rw [← hxx] at g2
      have hgd : l.getD i dO = x := by rw [getd hi, hxx]
      obtain ⟨G2, eG2⟩ : ∃ G2, G2 = H2 ++ [.cells x.cs .rw] := ⟨_, rfl⟩
      have cG2 : Chg [] H2 G2 := by rw [eG2]; exact .app _ _
      have rG2 : rowOf G2 H2.length = some x.cs := by rw [eG2]; simp [Od.cs]
      have gw2 : G2[H.length]? = some (.cells [w] .rw) := cG2.get gw (by simp)
      have ho2 := ho.chg cG2 (by simp)
      have hlw := walkN_len l inst side i
      simp only [Od.cs] at eG2 g2 rG2
      simp [hi', hi, g0, g1, g2]
      rw [← eG2]
      by_cases hs : x.inst = inst ∧ x.side = side
      · obtain ⟨hs1, hs2⟩ := hs
        obtain ⟨own, eo⟩ : ∃ own, own = walkN l inst side i := ⟨_, rfl⟩
        rw [← eo] at ho ho2 hlw
        obtain ⟨aw, cw, sw, ew⟩ := ho2.so.form
        have rw2 : rowOf G2 H.length = some [w] := rowOf_rw gw2
        have hi0 : G2[H2.length]? = some (.cells [.int .i64 x.id, .int .i64 x.acc, .int .i64 x.inst, .int .i64 x.side, .int .i64 x.q, .int .i64 x.p] .rw) := by rw [eG2]; simp
        rw [ew] at rw2
        simp [rG2, hs1, hs2, rw2]
        refine hx_down (fun j st => j ≤ own.length ∧ ∃ H', st = ⟨sp 51 [(1, .int .i64 inst), (2, .int .i64 side), (7, .ptr (some (H.length, 0))), (9, .ptr (some (H2.length, 0))), (10, .int .i64 (j : Nat)), (13, .slice (some (b, o)) l.length c 6), (14, .int .i64 l.length), (15, .int .i64 i)], H', []⟩ ∧ Chg [] G2 H' ∧ atP own x own.length = atP own x j) (j := own.length) ?_ (by omega) ⟨Nat.le_refl _, G2, by simp [maskS], .refl, rfl⟩
        rintro j st ⟨hj, H3, rfl, c3, hat⟩
        simp
        refine hx_drawn dc14_8 fun H4 c4 _ _ => ?_
        have c5 := c3.tr c4
        have rw4 := c5.row rw2 (by simp)
        have rx4 := c5.row rG2 (by simp)
        have ho4 := ho2.chg c5 (by simp)
        obtain ⟨H5, e5⟩ : ∃ H5, H5 = H4 ++ [.cells [.int .i64 x.id, .int .i64 x.acc, .int .i64 x.inst, .int .i64 x.side, .int .i64 x.q, .int .i64 x.p] .pl] := ⟨_, rfl⟩
        have c45 : Chg [] H4 H5 := by rw [e5]; exact .app _ _
        have tail : atP own x own.length = j → ∃ w' H6, callA ap (k + 6) (.func 32 [] []) [.slice aw own.length cw sw, .int .i64 j, .slice (some (H4.length, 0)) 1 (some 1) 6] 0 H5 = some (w', H6) ∧ H6[H.length]? = some (.cells [.slice aw own.length cw sw] .rw) ∧
            Chg [] H (H6.set H.length (.cells [w'] .rw)) ∧ (H6.set H.length (.cells [w'] .rw))[H.length]? = some (.cells [w'] .rw) ∧ OwnS (H6.set H.length (.cells [w'] .rw)) w' (walkN l inst side (i + 1)) ∧ ∀ b ∈ blk w', H.length < b := by
          intro hj2
          have hbw : ∀ b ∈ blk w, b < H4.length := fun b hb => by
            rcases ho4 with ⟨_, _, rfl, -⟩ | ⟨b', rfl, h4⟩
            · simp at hb
            · simp at hb; subst hb; exact lt_of_get h4
          obtain ⟨w', H6, t1, t2, t3, t4⟩ := insert_ok (k := k + 5) (H := H5) (w := w) (own := own) (bv := H4.length) (i := j) (o := x) (ho4.chg c45 (by simp)) (by rw [e5]; simp [Od.cs]) hj (by omega) (fun h => Nat.lt_irrefl _ (hbw _ h))
          have cc : Chg [] H H6 := ((c2.tr cG2).tr (c5.tr c45)).trans t3 fun b h => .inr (Nat.le_of_lt (hb b h))
          have hH4 : H.length < H4.length := by
            have := (c2.tr cG2).1
            have := c5.1
            have := lt_of_get gw2
            omega
          have hH5 : H.length < H5.length := by have := c45.1; omega
          have hw' : ∀ b ∈ blk w', H.length < b := fun b h => Nat.lt_of_lt_of_le hH5 (t4 b h)
          have hg6 : H6[H.length]? = some (.cells [w] .rw) := t3.get ((c5.tr c45).get gw2 (by simp)) (fun h => Nat.lt_irrefl _ (hb _ h))
          have hl6 := lt_of_get hg6
          have hWN : walkN l inst side (i + 1) = own.take j ++ x :: own.drop j := by
            rw [walkN, hgd, if_pos ⟨hs1, hs2⟩, insP, ← eo, hj2]
          refine ⟨w', H6, ew ▸ t1, ew ▸ hg6, cc.set_new (Nat.le_refl _) _, by simp [hl6], ?_, hw'⟩
          rw [hWN]
          exact t2.chg (Chg.set _ _ _) (fun b h => by have := hw' b h; simp; omega)
        cases j with
        | zero =>
          obtain ⟨w', H6, t1, t3, t4, t5, t6, t7⟩ := tail hat
          obtain ⟨a', b', c', ew'⟩ := t6.so.form
          rw [show ((0 : Nat) : Int) = 0 from rfl] at t1
          rw [ew'] at t1 t4 t5 t6 t7
          have t3' : rowRw H6 0 H.length = some [.slice aw own.length cw sw] := by simp [rowRw, t3]
          simp [d14_8, rw4, rx4]
          rw [← e5]
          simp [t1, t3', maskS, wi]
          exact ⟨t4, _, t5, t6, t7⟩
        | succ j =>
          obtain ⟨b1, o1, c1, r1, e1, f0, ff⟩ := SO.all ho4.so (by intro h; simp [h] at hj)
          have hjl : j < own.length := by omega
          obtain ⟨f1, f2, -⟩ := ff j hjl
          obtain ⟨y, hy⟩ : ∃ y, y = own[j] := ⟨_, rfl⟩
          have hgy : own.getD j dO = y := by rw [getd hjl, hy]
          rw [← hy] at f2
          have hjj : (j : Int) < own.length := by omega
          have wj : IntKind.i64.wrap (j : Int) = (j : Int) := wrap_i64 (by omega) (by omega)
          have wj1 : IntKind.i64.wrap ((j : Int) + 1 - 1) = (j : Int) := by rw [wrap_i64 (by omega) (by omega)]; omega
          simp only [Od.cs] at f2
          rw [ew] at e1
          injection e1 with z1 z2 z3 z4
          subst z1 z3 z4
          cases hbt : betterB x y with
          | true =>
            have hbt' : betterB ⟨x.id, x.acc, x.inst, x.side, x.q, x.p⟩ ⟨y.id, y.acc, y.inst, y.side, y.q, y.p⟩ = true := hbt
            simp [d14_8, rw4, rx4, wj, wj1, hjj, f0, f1, f2, better_u, hbt']
            exact ⟨j, by omega, by omega, H4, by simp [maskS], c5, by rw [hat, atP, hgy, if_pos hbt]⟩
          | false =>
            have hbt' : betterB ⟨x.id, x.acc, x.inst, x.side, x.q, x.p⟩ ⟨y.id, y.acc, y.inst, y.side, y.q, y.p⟩ = false := hbt
            simp [d14_8, rw4, rx4, wj, wj1, hjj, f0, f1, f2, better_u, hbt']
            obtain ⟨w', H6, t1, t3, t4, t5, t6, t7⟩ := tail (by rw [hat, atP, hgy, hbt]; rfl)
            obtain ⟨a', b', c', ew'⟩ := t6.so.form
            rw [show ((j + 1 : Nat) : Int) = (j : Int) + 1 from rfl] at t1
            rw [ew'] at t1 t4 t5 t6 t7
            have t3' : rowRw H6 0 H.length = some [.slice (some (b1, o1)) own.length cw 6] := by simp [rowRw, t3]
            rw [← e5]
            simp [t1, t3', maskS, wi]
            exact ⟨t4, _, t5, t6, t7⟩
      · have hN : walkN l inst side (i + 1) = walkN l inst side i := by rw [walkN, hgd, if_neg hs]
        have hgo : (if x.inst = inst then decide ¬ x.side = side else true) = true := by
          by_cases h1 : x.inst = inst
          · have : ¬ x.side = side := fun h => hs ⟨h1, h⟩
            simp [h1, this]
          · simp [h1]
        by_cases h1 : x.inst = inst
        · have h2 : ¬ x.side = side := fun h => hs ⟨h1, h⟩
          simp [rG2, h1, h2, maskS, wi]
          exact ⟨c2.tr cG2, w, gw2, hN ▸ ho2, hb⟩
        · simp [rG2, h1, maskS, wi]
          exact ⟨c2.tr cG2, w, gw2, hN ▸ ho2, hb⟩
    · rintro st ⟨H2, w, rfl, c2, gw, ho, hb⟩
      simp [walkB, hrr]
      exact ⟨c2, w, gw, ho, fun b h => Nat.le_of_lt (hb b h)⟩
end
end Go.Proofs.Ytpinfljbccjbkaa.T.Qu
end
section
/-! Ranges whose rounds turn rows of their own; the function that goes through orders. -/
set_option linter.unusedVariables false
set_option linter.unusedSimpArgs false
set_option maxHeartbeats 4000000
set_option maxRecDepth 100000
namespace Go.Proofs.Ytpinfljbccjbkaa.T.Qu
open Go Go.Ab
def asF (P : List AV → AH → Prop) (H : AH) (r : Ex × St) : Prop := r.1 = .normal ∧ Chg [] H r.2.H ∧ P r.2.env r.2.H
@[simp] theorem asF_normal {P : List AV → AH → Prop} {H H' : AH} {env : List AV} {ms : List Nat} : asF P H (.normal, ⟨env, H', ms⟩) = (Chg [] H H' ∧ P env H') := propext ⟨fun h => h.2, fun h => ⟨rfl, h⟩⟩
@[congr] theorem asF_congr {P : List AV → AH → Prop} {H : AH} {q q' : Ex × St} (h : tag q = q') : asF P H q = asF P H q' := by cases h; rfl
/-- As hx_range; what is handed over may be boxed. -/
theorem hx_rangeG {ap : AP} {k k' n : Nat} {s : St} {g : Operand} {ps : Array Tmp} {aq bd : AC} {Q : Ex × St → Prop} (A : Nat → AH → List AV → Prop) (Inv : AH → Prop) (I : Nat → AH → Prop) (E : Ex → AH → Prop)
    (hf : isFunc (opd s.env g) = true)
    (hg : Goes ap (k + 1) n (opd s.env g) A Inv (s.H ++ [.deferred false] ++ [.loop .ready none s.env ps aq bd s.H.length]) (s.H.length + 1))
    (hI : ∀ j H H', I j H → Chg [] H H' ∨ LS (s.H.length + 1) H H' → I j H') (hE : ∀ x H H', E x H → Chg [] H H' ∨ LS (s.H.length + 1) H H' → E x H')
    (hInv : ∀ j H, I j H → Inv H)
    (hn : ∀ j H a, A j H a → a.length = ps.size)
    (h0 : I 0 s.H)
    (hb : ∀ j, j < n → ∀ H a, I j H → A j H a → isLoop H[s.H.length + 1]? → H[s.H.length]? = some (.deferred false) →
      Hx (evCode ap (callA ap k) 0 (some (s.H.length + 1)) k aq ⟨setL s.env (ps.toList.zip a), H, []⟩) (asF (fun env H2 => ∀ H1, LS (s.H.length + 1) H2 H1 → isLoop H1[s.H.length + 1]? → H1[s.H.length]? = some (.deferred false) → I j H1 → ∀ ms, Hx (evCode ap (callA ap k) 0 (some (s.H.length + 1)) k bd ⟨env, H1, ms⟩) (stepOut (I (j + 1)) E (s.H.length + 1) s.H.length H1)) H))
    (hq : ∀ H, I n H → H[s.H.length]? = some (.deferred false) → Q (.normal, ⟨s.env, H, s.H.length :: s.marks⟩))
    (hqe : ∀ x H, x ≠ .normal → E x H → H[s.H.length]? = some (.deferred false) → Q (x, ⟨s.env, H, s.H.length :: s.marks⟩)) :
    Hx (evCode ap (callA ap (k + 2)) 0 none k' (.range g ps aq bd) s) Q := by
  have hl0 : (s.H ++ [AB.deferred false] ++ [.loop .ready none s.env ps aq bd s.H.length])[s.H.length + 1]? = some (.loop .ready none s.env ps aq bd s.H.length) := by simp
  have hd0 : (s.H ++ [AB.deferred false] ++ [.loop .ready none s.env ps aq bd s.H.length])[s.H.length]? = some (.deferred false) := by simp
  have key := hg (fun j H => I j H ∧ H[s.H.length + 1]? = some (.loop .ready none s.env ps aq bd s.H.length) ∧ H[s.H.length]? = some (.deferred false))
    (fun H => ∃ x c, jumpOf x = some c ∧ E x H ∧ H[s.H.length + 1]? = some (.loop .done (some c) s.env ps aq bd s.H.length) ∧ H[s.H.length]? = some (.deferred false))
    (fun j H H' ⟨h1, h2, h3⟩ c => ⟨hI j H H' h1 (.inl c), c.get h2 (by simp), c.get h3 (by simp)⟩)
    (fun H H' ⟨x, c', h1, h2, h3, h4⟩ c => ⟨x, c', h1, hE x H H' h2 (.inl c), c.get h3 (by simp), c.get h4 (by simp)⟩) (fun j H ⟨h, _⟩ => hInv j H h)
    (fun j hj H a ⟨h1, h2, h3⟩ ha => by
      have hlt := lt_of_get h2
      have hbb := hb j hj H a h1 ha (by rw [h2]; trivial) h3
      obtain ⟨r, e1, e2, e3, e4⟩ := hbb.ex
      have h2' := e3.get h2 (by simp)
      have h3' := e3.get h3 (by simp)
      have hlt' := lt_of_get h2'
      obtain ⟨H1, hH1⟩ : ∃ H1, H1 = r.2.H.set (s.H.length + 1) (.loop .busy none s.env ps aq bd s.H.length) := ⟨_, rfl⟩
      have hls : LS (s.H.length + 1) r.2.H H1 := ⟨by rw [hH1]; exact Chg.set _ _ _, by rw [h2']; trivial⟩
      have g2 : H1[s.H.length + 1]? = some (.loop .busy none s.env ps aq bd s.H.length) := by rw [hH1, List.getElem?_set_self hlt']
      have g3 : H1[s.H.length]? = some (.deferred false) := by rw [hH1, List.getElem?_set_ne (by omega)]; exact h3'
      obtain ⟨q, f1, f2, f3, f4⟩ := (e4 H1 hls (by rw [g2]; trivial) g3 (hI _ _ _ (hI _ _ _ h1 (.inl e3)) (.inr hls)) r.2.marks).ex
      simp only [callA]
      unfold roundA
      rw [h2]
      simp only
      rw [if_neg (by simp [hn j H a ha]), e1]
      simp only [Option.bind_some]
      rw [e2, h2']
      simp only
      rw [← hH1, f1]
      simp only [Option.bind_some]
      rw [f2, g2]
      simp only
      have hlt2 := lt_of_get (f2.trans g2)
      refine Hx.som ?_
      obtain ⟨x, sq⟩ := q
      have hls2 : ∀ st pe, LS (s.H.length + 1) sq.H (sq.H.set (s.H.length + 1) (.loop st pe s.env ps aq bd s.H.length)) := fun st pe => ⟨Chg.set _ _ _, by rw [f2, g2]; trivial⟩
      have gd : ∀ A, (sq.H.set (s.H.length + 1) A)[s.H.length]? = some (.deferred false) := fun A => by rw [List.getElem?_set_ne (by omega)]; exact f3.trans g3
      cases hx : jumpOf x with
      | none =>
        cases x with
        | normal => exact .inl ⟨by simp, hI _ _ _ f4 (.inr (hls2 _ _)), List.getElem?_set_self hlt2, gd _⟩
        | exit i => cases hx
        | ret => cases hx
      | some c =>
        have f4' : E x sq.H := by
          cases x with
          | normal => cases hx
          | exit i => exact f4
          | ret => exact f4
        exact .inr ⟨by simp, x, c, hx, hE _ _ _ f4' (.inr (hls2 _ _)), List.getElem?_set_self hlt2, gd _⟩)
    ⟨hI _ _ _ h0 (.inl ((Chg.app _ _).tr (.app _ _))), hl0, hd0⟩
  obtain ⟨r, e, hr⟩ := key.ex
  simp only [evCode, hf]
  simp only [enterA, Option.bind_some, Bool.true_eq_false, if_false]
  have e' : callA ap (k + 2) (opd s.env g) [.yield (s.H ++ [AB.deferred false]).length] 0 (s.H ++ [AB.deferred false] ++ [.loop .ready none s.env ps aq bd s.H.length]) = some r := by
    rw [List.length_append]
    exact e
  rw [e']
  simp only [Option.bind_some, List.length_append, List.length_cons, List.length_nil, Nat.zero_add]
  unfold leaveA
  rcases hr with ⟨h1, h2, h3⟩ | ⟨x, c, h1, h2, h3, h4⟩
  · rw [h2]
    simp only
    rw [if_neg (by simp)]
    refine Hx.som (hq _ (hI _ _ _ h1 (.inr ⟨Chg.set _ _ _, by rw [h2]; trivial⟩)) ?_)
    rw [List.getElem?_set_ne (by omega)]; exact h3
  · rw [h3]
    simp only
    rw [if_neg (by simp), jumpEx_of h1]
    have hx : x ≠ .normal := fun e => by subst e; cases h1
    refine Hx.som (hqe x _ hx (hE _ _ _ h2 (.inr ⟨Chg.set _ _ _, by rw [h3]; trivial⟩)) ?_)
    rw [List.getElem?_set_ne (by omega)]; exact h4
theorem walk1_goes {own : List Od} {w : AV} {k c l : Nat} {H0 : AH} (hl : own.length ≤ 1000000) (hk : own.length + 10 < k) :
    Goes ap k own.length (.func 33 [] [.ptr (some (c, 0))]) (fun j H a => a = [.agg (own.getD j dO).cs]) (fun H => H[c]? = some (.cells [w] .rw) ∧ OwnS H w own) H0 l := by
  intro J D hJ hD hI hround h0
  rw [hx_go fn33 rfl, b33]
  obtain ⟨i1, i2⟩ := hI _ _ h0
  obtain ⟨aw, cw, sw, rfl⟩ := i2.so.form
  simp [rowOf_rw i1]
  refine hx_up (fun i s => ∃ H', s = ⟨sp 16 [(0, .yield l), (5, .slice aw own.length cw sw), (6, .int .i64 own.length), (7, .int .i64 i)], H', []⟩ ∧ J i H') own.length ?_ ?_ (by omega) ⟨H0, by simp [maskS], h0⟩
  · rintro i s hi ⟨H1, rfl, hJ1⟩
    obtain ⟨-, i2⟩ := hI _ _ hJ1
    obtain ⟨b, o, c', r, e, g0, gg⟩ := SO.all i2.so (by intro h; simp [h] at hi)
    cases e
    obtain ⟨g1, g2, -⟩ := gg i hi
    have hi' : (i : Int) < own.length := by omega
    have wi : IntKind.i64.wrap ((i : Int) + 1) = (i : Int) + 1 := wrap_i64 (by omega) (by omega)
    have hr := hround i hi (H1 ++ [.cells own[i].cs .rw]) [.agg own[i].cs] (hJ _ _ _ hJ1 (.app _ _)) (by show _ = _; rw [getd hi])
    obtain ⟨x, hx⟩ : ∃ x, x = own[i] := ⟨_, rfl⟩
    rw [← hx] at g2 hr
    simp only [Od.cs] at g2 hr
    simp [hi', hi, g0, g1, g2]
    refine Hx.mapp hr ?_
    rintro ⟨r, H3⟩ (⟨h1, h2⟩ | ⟨h1, h2⟩)
    · simp only at h1 h2
      subst h1
      simp [wi, maskS]
      exact h2
    · simp only at h1 h2
      subst h1
      simp
      exact .inr h2
  · rintro s ⟨H1, rfl, hJ1⟩
    simp
    exact .inl hJ1
end Go.Proofs.Ytpinfljbccjbkaa.T.Qu
end
section
/-! Do any cross: the document's. Clone, DeleteFunc. -/
set_option linter.unusedVariables false
set_option linter.unusedSimpArgs false
set_option maxHeartbeats 4000000
set_option maxRecDepth 100000
namespace Go.Proofs.Ytpinfljbccjbkaa.T.Qu
open Go Go.Ab
section
variable {k : Nat} {H : AH}
end
end Go.Proofs.Ytpinfljbccjbkaa.T.Qu
end
section
/-! Rows of orders of one's own: Clone, DeleteFunc. -/
set_option linter.unusedVariables false
set_option linter.unusedSimpArgs false
set_option maxHeartbeats 4000000
set_option maxRecDepth 100000
namespace Go.Proofs.Ytpinfljbccjbkaa.T.Qu
open Go Go.Ab
section
variable {k : Nat} {H : AH}
/-- A row of one's own, of any room. -/
def RS (H : AH) (w : AV) (l : List Od) : Prop := (∃ c s, w = .slice none 0 c s ∧ l = []) ∨ (∃ b R, w = .slice (some (b, 0)) 0 (some 0) 6 ∧ rowOf H b = some R ∧ l = []) ∨ ∃ b c R r, w = .slice (some (b, 0)) l.length c 6 ∧ H[b]? = some (.cells R .rw) ∧ R = odsC l ++ r ∧ ∀ k, c = some k → l.length ≤ k
theorem RS.so {w : AV} {l : List Od} (h : RS H w l) : SO H w l := by
  rcases h with ⟨c, s, rfl, rfl⟩ | ⟨b, R, rfl, h, rfl⟩ | ⟨b, c, R, r, rfl, h, rfl, hc⟩
  · exact .nil _ _
  · exact SL.cap0 (by omega) h (by simp)
  · exact .at_ b 0 l.length c _ _ (by omega) (rowOf_rw h) (by simp; omega) (by rw [List.drop_zero, List.take_left' (by simp; omega)]) hc
theorem RS.chg {F : List Nat} {H' : AH} {w : AV} {l : List Od} (h : RS H w l) (c : Chg F H H') (hF : ∀ i ∈ blk w, i ∉ F) : RS H' w l := by
  rcases h with h | ⟨b, R, rfl, h, rfl⟩ | ⟨b, c', R, r, rfl, h, hR, hc⟩
  · exact .inl h
  · exact .inr (.inl ⟨b, R, rfl, c.row h (hF b (by simp)), rfl⟩)
  · exact .inr (.inr ⟨b, c', R, r, rfl, c.get h (hF b (by simp)), hR, hc⟩)
theorem RS.of {w : AV} {l : List Od} (h : Mine H 6 w (odsC l)) : RS H w l := by
  generalize hcs : odsC l = cs at h
  cases h with
  | nil c s =>
    have : l = [] := by
      have := congrArg List.length hcs
      simp at this
      exact List.length_eq_zero_iff.1 (by omega)
    exact .inl ⟨_, _, rfl, this⟩
  | row b n c R cs hz h1 h2 h3 h4 =>
    have hn : n = l.length := by
      have := congrArg List.length h3
      rw [← hcs] at this
      simp at this
      omega
    subst hn
    refine .inr (.inr ⟨b, c, R, R.drop (l.length * 6), rfl, h1, by rw [hcs, ← h3, List.take_append_drop], fun k e => ?_⟩)
    have := h4 k e
    omega
/-- An order is put. -/
theorem odsC_set {l : List Od} {r : List AV} {i : Nat} {x : Od} (hi : i < l.length) : (odsC l ++ r).take (i * 6) ++ (x.cs ++ (odsC l ++ r).drop (i * 6 + 6)) = odsC (l.set i x) ++ r := by
  have e1 : l.set i x = l.take i ++ x :: l.drop (i + 1) := by rw [List.set_eq_take_append_cons_drop, if_pos hi]
  rw [e1, List.take_append_of_le_length (by simp; omega), odsC_take, List.drop_append_of_le_length (by simp; omega), show i * 6 + 6 = (i + 1) * 6 by omega, odsC_drop, odsC_app]
  have : odsC (x :: l.drop (i + 1)) = x.cs ++ odsC (l.drop (i + 1)) := rfl
  rw [this]
  simp
theorem append0 {b : Nat} {x : AV} {l : List Od} (hr : rowOf H b = some []) (h : SO H x l) (hl : l.length ≤ 1000000) : aappend 0 H 6 48 (.slice (some (b, 0)) 0 (some 0) 6) x =
    some (if l = [] then (.slice (some (b, 0)) 0 (some 0) 6, H) else (.slice (some (H.length, 0)) l.length none 6, H ++ [.cells (odsC l) .rw])) := by
  obtain ⟨a, c, s, rfl⟩ := h.form
  have hf := h.first (n := l.length) (by simp; omega)
  have hs := h.sz_ok
  have hs0 : szOk 6 (.slice (some (b, 0)) 0 (some 0) 6) = true := rfl
  rw [aappend_eq, hs, hs0]
  simp only [lenOf, Option.bind_some, hf, odsC_one l, Bool.true_eq_false, if_false, aappendC, hr]
  by_cases h0 : l = []
  · subst h0
    simp
  · have : l.length ≠ 0 := fun h => h0 (List.length_eq_zero_iff.1 h)
    simp [h0, room]
    omega
theorem odsC_get {l : List Od} {r : List AV} {i : Nat} (hi : i < l.length) : ((odsC l ++ r).drop (i * 6)).take 6 = l[i].cs := by
  rw [List.drop_append_of_le_length (by simp; omega), odsC_drop, List.drop_eq_getElem_cons hi]
  have : odsC (l[i] :: l.drop (i + 1)) = l[i].cs ++ odsC (l.drop (i + 1)) := rfl
  rw [this, List.append_assoc, List.take_append_of_le_length (by simp [Od.cs])]
  exact List.take_of_length_le (by simp [Od.cs])
theorem aslice_low {n i b : Nat} {c : Option Nat} (hi : i ≤ n) : aslice H 6 (.slice (some (b, 0)) n c 6) (some (.int .i64 i)) none none = some (.slice (some (b, i * 6)) (n - i) (c.map (· - i)) 6) := by
  simp [aslice, abound, hi]
theorem aslice_high {n i b : Nat} {c : Option Nat} (hi : i ≤ n) (hc : ∀ k, c = some k → n ≤ k) : aslice H 6 (.slice (some (b, 0)) n c 6) none (some (.int .i64 i)) none = some (.slice (some (b, 0)) i c 6) := by
  cases c with
  | none => simp [aslice, abound, hi]
  | some c =>
    have := hc c rfl
    simp [aslice, abound, show i ≤ c by omega]
theorem clone_ok {v : AV} {l : List Od} (h : SO H v l) (hl : l.length ≤ 1000000) :
    Hx (callA ap (k + 1) (.func 34 [] []) [v] 0 H) fun r => Chg [] H r.2 ∧ RS r.2 r.1 l ∧ ∀ i ∈ blk r.1, H.length ≤ i := by
  rw [hx_go fn34 rfl, b34]
  obtain ⟨a, c, s, rfl⟩ := h.form
  cases a with
  | none =>
    have h0 : l = [] := by
      by_cases h0 : l = []
      · exact h0
      · obtain ⟨b, o, c', r, e, -⟩ := SO.all h h0
        cases e
    subst h0
    simp [eqV]
    exact ⟨.refl, .inl ⟨_, _, rfl, rfl⟩⟩
  | some p =>
    have hap := append0 (H := H ++ [.cells [] .pl]) (b := H.length) (by simp [rowOf]) (h.keep (.app _ _)) hl
    by_cases h0 : l = []
    · subst h0
      rw [if_pos rfl] at hap
      simp only [List.length_nil] at hap
      simp [eqV, hap]
      exact ⟨.app _ _, .inr (.inl ⟨H.length, [], rfl, by simp [rowOf], rfl⟩)⟩
    · rw [if_neg h0] at hap
      simp [eqV, hap]
      exact ⟨.app _ _, .inr (.inr ⟨_, none, odsC l, [], by simp; rfl, by simp, by simp, by simp⟩)⟩
theorem filter_take {P : Od → Bool} {l : List Od} {j : Nat} (hj : j < l.length) : (l.take (j + 1)).filter P = (l.take j).filter P ++ (if P l[j] = true then [l[j]] else []) := by
  rw [List.take_succ_eq_append_getElem hj, List.filter_append]
  simp only [List.filter_cons, List.filter_nil]
theorem delete_ok {v g : AV} {l : List Od} {P : Od → Bool} (h : RS H v l) (hx : extOf ap g = none) (hl : l.length ≤ 1000000) (hg : ∀ k' H' x, k ≤ k' → Chg (blk v) H H' → callA ap k' g [.agg (Od.cs x)] 0 H' = some (.bool (P x), H')) (hk : l.length + 10 < k) :
    Hx (callA ap (k + 2) (.func 38 [] []) [v, g] 0 H) fun r => RS r.2 r.1 (l.filter fun x => !P x) ∧ Chg (blk v) H r.2 ∧ ∀ i ∈ blk r.1, i ∈ blk v ∨ H.length ≤ i := by
  rw [hx_go fn38 rfl, b38]
  have key := indexFunc_ok (k := k) h.so hx hl (fun H' x c => hg k H' x (Nat.le_refl _) c.nil) hk
  cases hf : l.findIdx? P with
  | none =>
    have hid : idxF P l = -1 := by simp [idxF, hf]
    have hfl : l.filter (fun x => !P x) = l := by
      rw [List.filter_eq_self]
      intro x hx
      rw [List.findIdx?_eq_none_iff] at hf
      simp [hf x hx]
    rw [hid] at key
    obtain ⟨a, c, s, rfl⟩ := h.so.form
    rw [hfl]
    simp [key]
    exact ⟨h, .refl, fun i hi => .inl hi⟩
  | some i =>
    have hid : idxF P l = (i : Int) := by simp [idxF, hf]
    rw [List.findIdx?_eq_some_iff_getElem] at hf
    obtain ⟨hi, hp, hno⟩ := hf
    rw [hid] at key
    obtain ⟨b, c, R, r, rfl, hR, rfl, hc⟩ : ∃ b c R r, v = .slice (some (b, 0)) l.length c 6 ∧ H[b]? = some (.cells R .rw) ∧ R = odsC l ++ r ∧ ∀ k, c = some k → l.length ≤ k := by
      rcases h with ⟨c, s, rfl, rfl⟩ | ⟨b, R, rfl, h, rfl⟩ | h
      · simp at hi
      · simp at hi
      · exact h
    have w0 : IntKind.i64.wrap ((i : Int) + 1) = (i : Int) + 1 := wrap_i64 (by omega) (by omega)
    have hne : ¬ (i : Int) = -1 := by omega
    simp [key, w0, hne]
    refine hx_up (fun n st => ∃ H' cur i', st = ⟨sp 42 [(0, .slice (some (b, 0)) l.length c 6), (1, g), (5, .int .i64 (i' : Nat)), (6, .int .i64 (i + 1 + n : Nat))], H', []⟩ ∧ Chg [b] H H' ∧ cur.length = l.length ∧ H'[b]? = some (.cells (odsC cur ++ r) .rw) ∧
      i' < i + 1 + n ∧ cur.drop (i + 1 + n) = l.drop (i + 1 + n) ∧ cur.take i' = (l.take (i + 1 + n)).filter (fun x => !P x)) (l.length - (i + 1)) ?_ ?_ (by omega) ⟨H, l, i, by simp [maskS], .refl, rfl, hR, by omega, rfl, ?_⟩
    · rintro n st hn ⟨H1, cur, i', rfl, c1, hcl, hR1, hi1, hdr, htk⟩
      obtain ⟨j, ej⟩ : ∃ j, j = i + 1 + n := ⟨_, rfl⟩
      have ej' : i + 1 + (n + 1) = j + 1 := by omega
      rw [← ej] at hi1 hdr htk
      rw [ej', ← ej]
      have hjl : j < l.length := by omega
      have hjc : j < cur.length := by omega
      have hj' : (j : Int) < l.length := by omega
      have hi'l : i' < l.length := by omega
      have hi'' : (i' : Int) < l.length := by omega
      have wj : IntKind.i64.wrap ((j : Int) + 1) = (j : Int) + 1 := wrap_i64 (by omega) (by omega)
      have wi : IntKind.i64.wrap ((i' : Int) + 1) = (i' : Int) + 1 := wrap_i64 (by omega) (by omega)
      have hcj : cur[j] = l[j] := by
        have := congrArg (fun z => z[0]?) hdr
        simpa [hjl, hjc] using this
      obtain ⟨x, hxx⟩ : ∃ x, x = l[j] := ⟨_, rfl⟩
      have hget := odsC_get (r := r) hjc
      rw [hcj, ← hxx] at hget
      have hset := odsC_set (l := cur) (r := r) (i := i') (x := x) (by omega)
      obtain ⟨R1, eR⟩ : ∃ R1, R1 = odsC cur ++ r := ⟨_, rfl⟩
      have hRl : 6 * l.length ≤ R1.length := by rw [eR]; simp; omega
      rw [← eR] at hR1 hget hset
      have rb := rowOf_rw hR1
      have rw0 : rowRw H1 0 b = some R1 := rowRw_rw hR1
      obtain ⟨G, eG⟩ : ∃ G, G = H1 ++ [.cells x.cs .rw] := ⟨_, rfl⟩
      have cG : Chg [] H1 G := by rw [eG]; exact .app _ _
      have rG : rowOf G H1.length = some x.cs := by rw [eG]; simp [Od.cs]
      have rbG := cG.row rb (by simp)
      have gbG := cG.get hR1 (by simp)
      have rwG : rowRw G 0 b = some R1 := rowRw_rw gbG
      have hgx := hg (k + 1) G x (by omega) (by simpa using c1.tr cG)
      have hfil := filter_take (P := fun x => !P x) hjl
      rw [← hxx] at hfil
      have hlb := lt_of_get gbG
      have hb1 : j * 6 + 6 ≤ R1.length := by omega
      have hb2 : i' * 6 + 6 ≤ R1.length := by omega
      simp only [Od.cs] at hget hgx eG rG hset
      simp [hj', hjl, rb, hget, hb1]
      rw [← eG]
      cases hPx : P x with
      | true =>
        rw [hPx] at hgx hfil
        simp [rG, hgx, hx, maskS, wj]
        refine ⟨G, cur, i', ⟨rfl, rfl⟩, c1.tr cG, hcl, by rw [← eR]; exact gbG, by omega, ?_, ?_⟩
        · rw [← List.drop_drop, hdr, List.drop_drop]
        · rw [htk, hfil]; simp
      | false =>
        rw [hPx] at hgx hfil
        simp [rG, hgx, hx, maskS, wj, wi, rwG, hi'', hi'l, hb2, hset]
        simp only [List.cons_append, List.nil_append] at hset
        refine ⟨_, cur.set i' x, i' + 1, ⟨rfl, rfl⟩, (c1.tr cG).tr' (.set _ _ _), by simp [hcl], ?_, by omega, ?_, ?_⟩
        · rw [List.getElem?_set_self hlb, hset]
        · rw [List.drop_set_of_lt (by omega), ← List.drop_drop, hdr, List.drop_drop]
        · rw [hfil, ← htk, List.take_succ_eq_append_getElem (by simp; omega), List.take_set_of_le (Nat.le_refl _)]
          simp
    · rintro st ⟨H1, cur, i', rfl, c1, hcl, hR1, hi1, hdr, htk⟩
      rw [show i + 1 + (l.length - (i + 1)) = l.length by omega] at hi1 hdr htk ⊢
      rw [List.take_length] at htk
      obtain ⟨R1, eR⟩ : ∃ R1, R1 = odsC cur ++ r := ⟨_, rfl⟩
      have hRl : 6 * l.length ≤ R1.length := by rw [eR]; simp; omega
      rw [← eR] at hR1
      have rw0 : rowRw H1 0 b = some R1 := rowRw_rw hR1
      have n0 : ¬ l.length - i' = 0 := by omega
      have hb2 : i' * 6 + (l.length - i') * 6 ≤ R1.length := by omega
      have hi2 : i' ≤ l.length := by omega
      have z := fun H => @aslice_low H l.length i' b c hi2
      have z2 := fun H => @aslice_high H l.length i' b c hi2 hc
      simp [z, z2, rw0, n0, hb2]
      refine ⟨.inr (.inr ⟨b, c, _, (List.replicate (l.length - i') [AV.int .i64 0, .int .i64 0, .int .i64 0, .int .i64 0, .int .i64 0, .int .i64 0]).flatten ++ R1.drop (i' * 6 + (l.length - i') * 6), ?_, by rw [List.getElem?_set_self (lt_of_get hR1)], ?_, fun k e => ?_⟩), c1.tr' (.set _ _ _)⟩
      · rw [← htk, List.length_take, Nat.min_eq_left (by omega)]
      · rw [eR, List.take_append_of_le_length (by simp; omega), odsC_take, htk]
      · have := hc k e
        rw [← htk, List.length_take, Nat.min_eq_left (by omega)]
        omega
    · rw [Nat.add_zero, filter_take hi, hp]
      simp
      rw [List.filter_eq_self.2]
      intro x hx
      obtain ⟨m, hm, rfl⟩ := List.getElem_of_mem hx
      simp at hm
      have := hno m (by omega)
      simp at this ⊢
      exact this
end
end Go.Proofs.Ytpinfljbccjbkaa.T.Qu
end
section
/-! Who trades with whom: the program's Match. -/
set_option linter.unusedVariables false
set_option linter.unusedSimpArgs false
set_option maxHeartbeats 4000000
set_option maxRecDepth 100000
namespace Go.Proofs.Ytpinfljbccjbkaa.T.Qu
open Go Go.Ab
theorem ordB_right {l : List Od} : ∀ n, ordB l n = true → ∀ i (hi : i < l.length), i < n → rightO l[i] = true
  | 0, _, i, _, h => by omega
  | n + 1, ho, i, hi, h => by
    rw [ordB] at ho
    simp only [Bool.and_eq_true] at ho
    by_cases hin : i = n
    · subst hin
      have := ho
      rw [getd hi] at this
      simp_all
    · exact ordB_right n ho.1 i hi (by omega)
theorem rightL_mem {l : List Od} (h : rightL l = true) : (∀ x ∈ l, rightO x = true) ∧ l.length ≤ 32 := by
  simp only [rightL, Bool.and_eq_true, decide_eq_true_eq] at h
  refine ⟨fun x hx => ?_, by omega⟩
  obtain ⟨i, hi, rfl⟩ := List.getElem_of_mem hx
  exact ordB_right l.length (by first | exact h.1 | exact h.2) i hi hi
theorem insP_mem {own : List Od} {o x : Od} (h : x ∈ insP own o) : x = o ∨ x ∈ own := by
  rw [insP] at h
  rcases List.mem_append.1 h with h | h
  · exact .inr (List.mem_of_mem_take h)
  · rcases List.mem_cons.1 h with h | h
    · exact .inl h
    · exact .inr (List.mem_of_mem_drop h)
theorem walkN_mem {l : List Od} {inst side : Int} {x : Od} : ∀ n, n ≤ l.length → x ∈ walkN l inst side n → x ∈ l
  | 0, _, h => by simp [walkN] at h
  | n + 1, hn, h => by
    rw [walkN] at h
    split at h
    · rcases insP_mem h with rfl | h
      · rw [getd (by omega)]; exact List.getElem_mem _
      · exact walkN_mem n (by omega) h
    · exact walkN_mem n (by omega) h
theorem walkB_mem {l : List Od} {inst side : Int} {x : Od} (h : x ∈ walkB l inst side) : x ∈ l := by
  unfold walkB at h
  split at h
  · exact walkN_mem _ (Nat.le_refl _) h
  · simp at h
theorem right_q {o : Od} (h : rightO o = true) : 1 ≤ o.q ∧ o.q ≤ 1000000000 ∧ (o.side = 1 ∨ o.side = 2) := by
  simp only [rightO, Bool.and_eq_true, decide_eq_true_eq, Bool.or_eq_true] at h
  omega
theorem odsC_setq {l : List Od} {r : List AV} {i : Nat} {z : Int} (hi : i < l.length) : (odsC l ++ r).take (i * 6 + 4) ++ (.int .i64 z :: (odsC l ++ r).drop (i * 6 + 4 + 1)) = odsC (l.set i { l[i] with q := z }) ++ r := by
  have hl : i * 6 + 4 < (odsC l ++ r).length := by simp; omega
  have e0 := List.set_eq_take_append_cons_drop (l := odsC l ++ r) (i := i * 6 + 4) (a := AV.int .i64 z)
  rw [if_pos hl] at e0
  rw [← e0]
  obtain ⟨A, B, y, hA, rfl⟩ : ∃ A B y, A.length = i ∧ l = A ++ y :: B := ⟨l.take i, l.drop (i + 1), l[i], by simp; omega, by simp⟩
  subst hA
  have e1 : (A ++ y :: B)[A.length] = y := by simp
  rw [e1]
  have e2 : (A ++ y :: B).set A.length { y with q := z } = A ++ { y with q := z } :: B := by simp
  rw [e2, odsC_app, odsC_app]
  have e3 : ∀ w : Od, odsC (w :: B) = w.cs ++ odsC B := fun _ => rfl
  rw [e3, e3, List.append_assoc, List.append_assoc, List.append_assoc, List.append_assoc, List.set_append_right _ _ (by simp; omega)]
  simp [Od.cs, show A.length * 6 + 4 - 6 * A.length = 4 by omega]
theorem odsC_at {l : List Od} {r : List AV} {i j : Nat} (hi : i < l.length) (hj : j < 6) : (odsC l ++ r)[i * 6 + j]? = l[i].cs[j]? := by
  have := congrArg (fun z => z[j]?) (odsC_get (r := r) hi)
  rw [List.getElem?_take_of_lt hj, List.getElem?_drop] at this
  exact this
theorem get_ne {e : List AV} {v : AV} {i j : Nat} (h : i ≠ j) : Go.Ab.get (e.set i v) j = Go.Ab.get e j := by unfold Go.Ab.get; rw [List.getElem?_set_ne h]
theorem get_self {e : List AV} {v : AV} {i : Nat} (h : i < e.length) : Go.Ab.get (e.set i v) i = v := by unfold Go.Ab.get; rw [List.getElem?_set_self h]; rfl
section
variable {k : Nat} {H : AH}
end
end Go.Proofs.Ytpinfljbccjbkaa.T.Qu
end
section
/-! The order in which orders are met: the document's. -/
set_option linter.unusedVariables false
set_option linter.unusedSimpArgs false
set_option maxHeartbeats 4000000
set_option maxRecDepth 100000
namespace Go.Proofs.Ytpinfljbccjbkaa.T.Qu
open Go Go.Ab
def aheadB (a b : Od) : Bool := if a.p = b.p then decide (a.id < b.id) else (decide (b.p < a.p) == decide (a.side = 1))
/-- How many of the first are ahead. -/
def rpos (x : Od) : List Od → Nat
  | [] => 0
  | a :: l => if aheadB a x = true then rpos x l + 1 else 0
theorem rpos_le (x : Od) : ∀ l, rpos x l ≤ l.length
  | [] => Nat.le_refl _
  | a :: l => by
    have := rpos_le x l
    rw [rpos]
    split
    · simp; omega
    · exact Nat.zero_le _
theorem rpos_yes {x : Od} : ∀ {l : List Od} {i : Nat} (hi : i < l.length), i < rpos x l → aheadB l[i] x = true
  | a :: l, 0, hi, h => by
    rw [rpos] at h
    split at h
    · rename_i ha; exact ha
    · omega
  | a :: l, i + 1, hi, h => by
    have h' : i < rpos x l := by
      rw [rpos] at h
      split at h
      · omega
      · omega
    have := rpos_yes (l := l) (i := i) (by simpa using hi) h'
    simpa using this
theorem rpos_no {x : Od} : ∀ {l : List Od} (hi : rpos x l < l.length), aheadB l[rpos x l] x = false
  | a :: l, hi => by
    cases ha : aheadB a x with
    | false =>
      have : rpos x (a :: l) = 0 := by rw [rpos, ha]; rfl
      simp [this, ha]
    | true =>
      have e : rpos x (a :: l) = rpos x l + 1 := by rw [rpos, if_pos ha]
      have h2 : rpos x l < l.length := by simp [e] at hi; exact hi
      simp only [e, List.getElem_cons_succ]
      exact rpos_no h2
def insR (own : List Od) (o : Od) : List Od := own.take (rpos o own) ++ o :: own.drop (rpos o own)
def walkRN (l : List Od) (inst side : Int) : Nat → List Od
  | 0 => []
  | n + 1 => if (l.getD n dO).inst = inst ∧ (l.getD n dO).side = side then insR (walkRN l inst side n) (l.getD n dO) else walkRN l inst side n
theorem walkRN_len (l : List Od) (inst side : Int) : ∀ n, (walkRN l inst side n).length ≤ n
  | 0 => Nat.le_refl _
  | n + 1 => by
    have := walkRN_len l inst side n
    rw [walkRN]
    split
    · have := rpos_le (l.getD n dO) (walkRN l inst side n)
      simp [insR]; omega
    · omega
def walkRB (l : List Od) (inst side : Int) : List Od := if rightL l = true then walkRN l inst side l.length else []
section
variable {k : Nat} {H : AH}
theorem ahead_u {id acc inst side q p id' acc' inst' side' q' p' : Int} : callA ap (k + 1) (.func 42 [] []) [.agg [.int .i64 id, .int .i64 acc, .int .i64 inst, .int .i64 side, .int .i64 q, .int .i64 p], .agg [.int .i64 id', .int .i64 acc', .int .i64 inst', .int .i64 side', .int .i64 q', .int .i64 p']] 0 H =
    some (.bool (aheadB ⟨id, acc, inst, side, q, p⟩ ⟨id', acc', inst', side', q', p'⟩), H) := by
  refine Hx.eqn ?_
  rw [hx_gg fn42 rfl, b42]
  by_cases h : p = p'
  · subst h; simp [aheadB]
  · simp [aheadB, h, eqV]
theorem so_drop {v : AV} {l : List Od} (h : SO H v l) {i : Nat} (hi : i ≤ l.length) : ∃ v', aslice H 6 v (some (.int .i64 i)) none none = some v' ∧ SO H v' (l.drop i) := by
  obtain ⟨v', h1, h2, -, -⟩ := h.cut (low := some (.int .i64 (i : Int))) (high := none) (by omega) (lo := i) (hi := l.length) hi (by rw [odsC_len]; omega) (by simp [lowIs]) (fun n hn => by rw [odsC_len] at hn; simp [highIs]; omega)
  refine ⟨v', h1, ?_⟩
  rw [List.take_of_length_le (by rw [odsC_len]; omega), odsC_drop] at h2
  exact h2
theorem rwalk_ok {v : AV} {l : List Od} {inst side : Int} (h : SO H v l) (hl : l.length ≤ 1000000) (hk : l.length + 30 < k) :
    Hx (callA ap k (.func 28 [] []) [v, .int .i64 inst, .int .i64 side] 0 H) fun r => SO r.2 r.1 (walkRB l inst side) ∧ Chg [] H r.2 ∧ ∀ b ∈ blk r.1, H.length ≤ b := by
  obtain ⟨k, rfl⟩ : ∃ k', k = k' + 7 := ⟨k - 7, by omega⟩
  rw [hx_go fn28 rfl, b28]
  obtain ⟨a, c, s, rfl⟩ := h.form
  have hr := rorders_ok (k := k + 6) h hl (by omega)
  cases hrr : rightL l with
  | false =>
    simp [hr, hrr, walkRB]
    exact ⟨.nil _ _, .refl⟩
  | true =>
    have h32 := (rightL_mem hrr).2
    simp [hr, hrr]
    refine hx_up (fun i st => ∃ H' w, st = ⟨sp 72 [(0, .slice a l.length c s), (1, .int .i64 inst), (2, .int .i64 side), (7, w), (8, .int .i64 i)], H', []⟩ ∧ Chg [] H H' ∧ Mine H' 6 w (odsC (walkRN l inst side i)) ∧ ∀ b ∈ blk w, H.length ≤ b) l.length ?_ ?_ (by omega) ⟨H, .slice none 0 (some 0) 0, by simp [maskS], .refl, .nil _ _, by simp⟩
    · rintro i st hi ⟨H2, w, rfl, c2, ho, hnw⟩
      have hi' : (i : Int) < l.length := by omega
      have wi : IntKind.i64.wrap ((i : Int) + 1) = (i : Int) + 1 := wrap_i64 (by omega) (by omega)
      obtain ⟨b, o, c', r, e, g0, gg⟩ := SO.all (h.keep c2) (by intro h; simp [h] at hi)
      cases e
      obtain ⟨g1, g2, g3⟩ := gg i hi
      obtain ⟨x, hxx⟩ : ∃ x, x = l[i] := ⟨_, rfl⟩
      rw [← hxx] at g2 g3
      have hgd : l.getD i dO = x := by rw [getd hi, hxx]
      have g32 := g3 2 (by omega)
      have g33 := g3 3 (by omega)
      simp only [Od.cs, List.getElem?_cons_zero, List.getElem?_cons_succ] at g2 g32 g33
      obtain ⟨own, eo⟩ : ∃ own, own = walkRN l inst side i := ⟨_, rfl⟩
      have hlw := walkRN_len l inst side i
      rw [← eo] at ho hlw
      obtain ⟨aw, cw, sw, ew⟩ := SO.form ho.sl
      subst ew
      simp [hi', hi, g0, g1, g2, g32, g33]
      by_cases h1 : x.inst = inst
      · by_cases h2 : x.side = side
        · have hN : walkRN l inst side (i + 1) = insR own x := by rw [walkRN, hgd, if_pos ⟨h1, h2⟩, eo]
          rw [hN]
          simp [h1, h2, hi, hi', g0, g33]
          have hrp := rpos_le x own
          refine hx_up (fun j st => ∃ H', st = ⟨sp 72 [(0, .slice (some (b, o)) l.length c 6), (1, .int .i64 inst), (2, .int .i64 side), (7, .slice aw own.length cw sw), (8, .int .i64 i), (9, .int .i64 (j : Nat))], H', []⟩ ∧ Chg [] H2 H') (rpos x own) ?_ ?_ (by omega) ⟨H2, by simp [maskS], .refl⟩
          · rintro j st hj ⟨H3, rfl, c3⟩
            have hjo : j < own.length := by omega
            have hj' : (j : Int) < own.length := by omega
            have wj : IntKind.i64.wrap ((j : Int) + 1) = (j : Int) + 1 := wrap_i64 (by omega) (by omega)
            simp
            refine hx_drawn dc28_9 fun H4 c4 _ _ => ?_
            obtain ⟨b1, o1, c1, r1, e1, f0, ff⟩ := SO.all (ho.keep (c3.tr c4)).sl (by intro h; simp [h] at hjo)
            obtain ⟨f1, f2, -⟩ := ff j hjo
            injection e1 with z1 z2 z3 z4
            subst z1 z3 z4
            obtain ⟨y, hy⟩ : ∃ y, y = own[j] := ⟨_, rfl⟩
            have hah := rpos_yes hjo hj
            rw [← hy] at f2 hah
            have g04 := (c3.tr c4).row g0 (by simp)
            have hah' : aheadB ⟨y.id, y.acc, y.inst, y.side, y.q, y.p⟩ ⟨x.id, x.acc, inst, side, x.q, x.p⟩ = true := by rw [← h1, ← h2]; exact hah
            simp only [Od.cs] at f2
            simp [d28_9, hj', hjo, hi', hi, f0, f1, f2, g04, g1, g2, h1, h2, ahead_u, hah', maskS, wj]
            exact c3.tr c4
          · rintro st ⟨H3, rfl, c3⟩
            simp
            refine hx_drawn dc28_9 fun H4 c4 _ _ => ?_
            have c5 := c3.tr c4
            have g04 := c5.row g0 (by simp)
            have hrl : ((rpos x own : Nat) : Int) ≤ own.length := by omega
            obtain ⟨n1, hn1, sn1⟩ := so_take (ho.keep c5).sl hrp
            by_cases hjo : rpos x own < own.length
            · have hj' : ((rpos x own : Nat) : Int) < own.length := by omega
              obtain ⟨b1, o1, c1, r1, e1, f0, ff⟩ := SO.all (ho.keep c5).sl (by intro h; simp [h] at hjo)
              obtain ⟨f1, f2, -⟩ := ff _ hjo
              injection e1 with z1 z2 z3 z4
              subst z1 z3 z4
              obtain ⟨y, hy⟩ : ∃ y, y = own[rpos x own] := ⟨_, rfl⟩
              have hah := rpos_no hjo
              rw [← hy] at f2 hah
              have hah' : aheadB ⟨y.id, y.acc, y.inst, y.side, y.q, y.p⟩ ⟨x.id, x.acc, inst, side, x.q, x.p⟩ = false := by rw [← h1, ← h2]; exact hah
              simp only [Od.cs] at f2
              simp [d28_9, hj', hjo, hi', hi, f0, f1, f2, g04, g1, g2, h1, h2, ahead_u, hah', maskS, hn1]
              refine Hx.mapp ((Mine.nil (H := H4) (sz := 6) (some 0) 0).append sn1 (by omega) (by omega) (odsC_one _) (by simp [room]; omega)) ?_
              rintro ⟨m1, H5⟩ ⟨t1, t2, t3⟩
              simp only [List.nil_append] at t1 t2 t3
              have t3' : ∀ i ∈ blk m1, H4.length ≤ i := fun i hi => (t3 i hi).elim (fun h => by simp at h) id
              have d5 : Chg [] H4 H5 := by simpa using t2
              have g05 := d5.row g04 (by simp)
              obtain ⟨am, cm, sm, em⟩ := SO.form t1.sl
              rw [List.length_take, Nat.min_eq_left hrp] at em
              subst em
              obtain ⟨H6, e6⟩ : ∃ H6, H6 = H5 ++ [.cells x.cs .pl] := ⟨_, rfl⟩
              have c56 : Chg [] H5 H6 := by rw [e6]; exact .app _ _
              have slX : SL H6 6 (.slice (some (H5.length, 0)) 1 (some 1) 6) x.cs := .at_ H5.length 0 1 (some 1) x.cs _ (by omega) (by rw [e6]; simp [rowOf]) (by simp [Od.cs]) (by simp [Od.cs]) (by simp)
              simp only [Od.cs] at e6
              simp [hi', hi, g05, g1, g2]
              rw [← e6]
              refine Hx.mapp ((t1.keep c56).append slX (by omega) (by omega) (by simp [Od.cs]) (by simp [room, Od.cs]; omega)) ?_
              rintro ⟨m2, H7⟩ ⟨u1, u2, u3⟩
              simp only at u1 u2 u3
              rw [← odsC_snoc] at u1
              have u3' : ∀ i ∈ blk m2, H4.length ≤ i := fun i hi => (u3 i hi).elim (t3' i) (fun h => by have := c56.1; have := d5.1; omega)
              obtain ⟨am2, cm2, sm2, em2⟩ := SO.form u1.sl
              rw [List.length_append, List.length_take, Nat.min_eq_left hrp] at em2
              subst em2
              have c47 : Chg [] H4 H7 := (d5.tr c56).trans u2 (fun i hi => .inr (t3' i hi))
              have ho7 := (ho.keep c5).keep c47
              obtain ⟨n2, hn2, sn2⟩ := so_drop ho7.sl hrp
              simp [hn2]
              refine Hx.mapp (u1.append sn2 (by omega) (by omega) (odsC_one _) (by simp [room]; omega)) ?_
              rintro ⟨m3, H8⟩ ⟨w1, w2, w3⟩
              simp only at w1 w2
              rw [← odsC_app, show own.take (rpos x own) ++ [x] ++ own.drop (rpos x own) = insR own x by simp [insR]] at w1
              obtain ⟨am3, cm3, sm3, em3⟩ := SO.form w1.sl
              subst em3
              simp [maskS, wi]
              exact ⟨H8, _, ⟨rfl, rfl⟩, c2.tr (c5.tr (c47.trans w2 (fun i hi => .inr (u3' i hi)))), w1, fun b hb => by
                have := c2.1; have := c5.1; have := c47.1
                rcases w3 b hb with h | h
                · have := u3' b h; omega
                · omega⟩
            · have hj' : ¬ ((rpos x own : Nat) : Int) < own.length := by omega
              simp [d28_9, hj', hjo, hn1]
              refine Hx.mapp ((Mine.nil (H := H4) (sz := 6) (some 0) 0).append sn1 (by omega) (by omega) (odsC_one _) (by simp [room]; omega)) ?_
              rintro ⟨m1, H5⟩ ⟨t1, t2, t3⟩
              simp only [List.nil_append] at t1 t2 t3
              have t3' : ∀ i ∈ blk m1, H4.length ≤ i := fun i hi => (t3 i hi).elim (fun h => by simp at h) id
              have d5 : Chg [] H4 H5 := by simpa using t2
              have g05 := d5.row g04 (by simp)
              obtain ⟨am, cm, sm, em⟩ := SO.form t1.sl
              rw [List.length_take, Nat.min_eq_left hrp] at em
              subst em
              obtain ⟨H6, e6⟩ : ∃ H6, H6 = H5 ++ [.cells x.cs .pl] := ⟨_, rfl⟩
              have c56 : Chg [] H5 H6 := by rw [e6]; exact .app _ _
              have slX : SL H6 6 (.slice (some (H5.length, 0)) 1 (some 1) 6) x.cs := .at_ H5.length 0 1 (some 1) x.cs _ (by omega) (by rw [e6]; simp [rowOf]) (by simp [Od.cs]) (by simp [Od.cs]) (by simp)
              simp only [Od.cs] at e6
              simp [hi', hi, g05, g1, g2]
              rw [← e6]
              refine Hx.mapp ((t1.keep c56).append slX (by omega) (by omega) (by simp [Od.cs]) (by simp [room, Od.cs]; omega)) ?_
              rintro ⟨m2, H7⟩ ⟨u1, u2, u3⟩
              simp only at u1 u2 u3
              rw [← odsC_snoc] at u1
              have u3' : ∀ i ∈ blk m2, H4.length ≤ i := fun i hi => (u3 i hi).elim (t3' i) (fun h => by have := c56.1; have := d5.1; omega)
              obtain ⟨am2, cm2, sm2, em2⟩ := SO.form u1.sl
              rw [List.length_append, List.length_take, Nat.min_eq_left hrp] at em2
              subst em2
              have c47 : Chg [] H4 H7 := (d5.tr c56).trans u2 (fun i hi => .inr (t3' i hi))
              have ho7 := (ho.keep c5).keep c47
              obtain ⟨n2, hn2, sn2⟩ := so_drop ho7.sl hrp
              simp [hn2]
              refine Hx.mapp (u1.append sn2 (by omega) (by omega) (odsC_one _) (by simp [room]; omega)) ?_
              rintro ⟨m3, H8⟩ ⟨w1, w2, w3⟩
              simp only at w1 w2
              rw [← odsC_app, show own.take (rpos x own) ++ [x] ++ own.drop (rpos x own) = insR own x by simp [insR]] at w1
              obtain ⟨am3, cm3, sm3, em3⟩ := SO.form w1.sl
              subst em3
              simp [maskS, wi]
              exact ⟨H8, _, ⟨rfl, rfl⟩, c2.tr (c5.tr (c47.trans w2 (fun i hi => .inr (u3' i hi)))), w1, fun b hb => by
                have := c2.1; have := c5.1; have := c47.1
                rcases w3 b hb with h | h
                · have := u3' b h; omega
                · omega⟩
        · have hN : walkRN l inst side (i + 1) = own := by rw [walkRN, hgd, if_neg (fun h => h2 h.2), eo]
          simp [h1, h2, maskS, wi, hi, hi', g0, g33]
          exact ⟨H2, _, ⟨rfl, rfl⟩, c2, hN ▸ ho, hnw⟩
      · have hN : walkRN l inst side (i + 1) = own := by rw [walkRN, hgd, if_neg (fun h => h1 h.1), eo]
        simp [h1, maskS, wi]
        exact ⟨H2, _, ⟨rfl, rfl⟩, c2, hN ▸ ho, hnw⟩
    · rintro st ⟨H2, w, rfl, c2, ho, hnw⟩
      obtain ⟨aw, cw, sw, ew⟩ := SO.form ho.sl
      subst ew
      simp [walkRB, hrr]
      exact ⟨ho.sl, c2, hnw⟩
end
end Go.Proofs.Ytpinfljbccjbkaa.T.Qu
end
section
/-! Who trades with whom: the document's Match. -/
set_option linter.unusedVariables false
set_option linter.unusedSimpArgs false
set_option maxHeartbeats 4000000
set_option maxRecDepth 100000
namespace Go.Proofs.Ytpinfljbccjbkaa.T.Qu
open Go Go.Ab
theorem walkRN_mem {l : List Od} {inst side : Int} {x : Od} : ∀ n, n ≤ l.length → x ∈ walkRN l inst side n → x ∈ l
  | 0, _, h => by simp [walkRN] at h
  | n + 1, hn, h => by
    rw [walkRN] at h
    split at h
    · rw [insR] at h
      rcases List.mem_append.1 h with h | h
      · exact walkRN_mem n (by omega) (List.mem_of_mem_take h)
      · rcases List.mem_cons.1 h with rfl | h
        · rw [getd (by omega)]; exact List.getElem_mem _
        · exact walkRN_mem n (by omega) (List.mem_of_mem_drop h)
    · exact walkRN_mem n (by omega) h
theorem get_mask : ∀ {m : List Bool} {e : List AV} {n : Nat}, m[n]? = some true → Go.Ab.get (mask m e) n = Go.Ab.get e n
  | true :: m, v :: e, 0, h => rfl
  | false :: m, v :: e, 0, h => by simp at h
  | true :: m, v :: e, n + 1, h => get_mask (m := m) (e := e) (n := n) (by simpa using h)
  | false :: m, v :: e, n + 1, h => get_mask (m := m) (e := e) (n := n) (by simpa using h)
  | [], e, n, h => by simp at h
  | true :: m, [], n, h => rfl
  | false :: m, [], n, h => rfl
theorem len_mask : ∀ {m : List Bool} {e : List AV}, (mask m e).length = e.length
  | true :: m, v :: e => by simp only [mask, List.length_cons, len_mask]
  | false :: m, v :: e => by simp only [mask, List.length_cons, len_mask]
  | [], e => by simp only [mask]
  | true :: m, [] => by simp only [mask]
  | false :: m, [] => by simp only [mask]
section
variable {k : Nat} {H : AH}
end
end Go.Proofs.Ytpinfljbccjbkaa.T.Qu
end
section
/-! The plain law: both answer alike. -/
set_option linter.unusedVariables false
set_option linter.unusedSimpArgs false
set_option maxHeartbeats 4000000
set_option maxRecDepth 100000
namespace Go.Proofs.Ytpinfljbccjbkaa.T.Qu
open Go Go.Ab
theorem ordB_id {l : List Od} : ∀ n, n ≤ l.length → ordB l n = true → ∀ i j (hi : i < l.length) (hj : j < l.length), i < j → j < n → l[i].id < l[j].id
  | 0, _, _, i, j, _, _, _, h => by omega
  | n + 1, hn, ho, i, j, hi, hj, hij, h => by
    rw [ordB] at ho
    simp only [Bool.and_eq_true, Bool.or_eq_true, decide_eq_true_eq] at ho
    by_cases hjn : j = n
    · subst hjn
      have h2 := ho.2.2
      rcases h2 with h2 | h2
      · omega
      · rw [getd hj, getd (by omega : j - 1 < l.length)] at h2
        by_cases hi1 : i = j - 1
        · subst hi1; exact h2
        · have := ordB_id j (by omega) ho.1 i (j - 1) hi (by omega) (by omega) (by omega)
          omega
    · exact ordB_id n (by omega) ho.1 i j hi hj hij (by omega)
def Rb (a b : Od) : Prop := betterB b a = false ∧ a.id ≠ b.id
theorem rpos_at {own : List Od} {x : Od} {s : Int} (hp : own.Pairwise Rb) (hs : ∀ a ∈ own, a.side = s ∧ a.id < x.id) (hx : x.side = s) : atP own x own.length = rpos x own ∧ (∀ a ∈ own.take (rpos x own), betterB x a = false) ∧ ∀ b ∈ own.drop (rpos x own), betterB x b = true := by
  have hah : ∀ a ∈ own, aheadB a x = !betterB x a := fun a ha => by
    obtain ⟨h1, h2⟩ := hs a ha
    unfold aheadB betterB
    rw [hx, h1]
    by_cases hs1 : s = 1
    · by_cases hpp : a.p = x.p
      · simp [hs1, hpp, h2]
      · simp [hs1, hpp]
        by_cases h : x.p < a.p
        · simp [h]; omega
        · simp [h]; omega
    · by_cases hpp : a.p = x.p
      · simp [hs1, hpp, h2]
      · simp [hs1, hpp]
  have hmono : ∀ i j (hi : i < own.length) (hj : j < own.length), i < j → betterB x own[i] = true → betterB x own[j] = true := fun i j hi hj hij hb => by
    have h := (List.pairwise_iff_getElem.1 hp) i j hi hj hij
    have h1 := (hs _ (List.getElem_mem hi)).1
    have h2 := (hs _ (List.getElem_mem hj)).1
    have h3 := h.1
    unfold betterB at h3 hb ⊢
    rw [hx] at hb ⊢
    rw [h2] at h3
    by_cases hs1 : s = 1
    · simp [hs1] at h3 hb ⊢; omega
    · simp [hs1] at h3 hb ⊢; omega
  have hlo : ∀ i (hi : i < own.length), i < rpos x own → betterB x own[i] = false := fun i hi h => by
    have := rpos_yes hi h
    rw [hah _ (List.getElem_mem hi)] at this
    simpa using this
  have hhi : ∀ i (hi : i < own.length), rpos x own ≤ i → betterB x own[i] = true := fun i hi h => by
    have hr : rpos x own < own.length := by omega
    have := rpos_no hr
    rw [hah _ (List.getElem_mem hr)] at this
    have h0 : betterB x own[rpos x own] = true := by simpa using this
    by_cases he : rpos x own = i
    · subst he; exact h0
    · exact hmono _ _ hr hi (by omega) h0
  refine ⟨?_, fun a ha => ?_, fun b hb => ?_⟩
  · have hle := rpos_le x own
    have : ∀ n, rpos x own ≤ n → n ≤ own.length → atP own x n = rpos x own := by
      intro n
      induction n with
      | zero => intro h _; rw [atP]; omega
      | succ n ih =>
        intro h1 h2
        rw [atP, getd (by omega : n < own.length)]
        by_cases he : rpos x own = n + 1
        · rw [hlo n (by omega) (by omega)]
          simp [he]
        · rw [hhi n (by omega) (by omega), if_pos rfl]
          exact ih (by omega) (by omega)
    exact this _ hle (Nat.le_refl _)
  · obtain ⟨i, hi, rfl⟩ := List.getElem_of_mem ha
    rw [List.length_take] at hi
    rw [List.getElem_take]
    exact hlo i (by omega) (by omega)
  · obtain ⟨i, hi, rfl⟩ := List.getElem_of_mem hb
    rw [List.length_drop] at hi
    rw [List.getElem_drop]
    exact hhi _ (by omega) (by omega)
theorem walkN_eq {l : List Od} {inst side : Int} (ho : ordB l l.length = true) : ∀ n, n ≤ l.length →
    walkN l inst side n = walkRN l inst side n ∧ (walkN l inst side n).Pairwise Rb ∧ ∀ a ∈ walkN l inst side n, a.side = side ∧ ∀ m (hm : m < l.length), n ≤ m → a.id < l[m].id
  | 0, _ => ⟨rfl, .nil, by simp [walkN]⟩
  | n + 1, hn => by
    obtain ⟨ih1, ih2, ih3⟩ := walkN_eq (inst := inst) (side := side) ho n (by omega)
    have hnl : n < l.length := by omega
    rw [walkN, walkRN, getd hnl]
    by_cases hc : l[n].inst = inst ∧ l[n].side = side
    · rw [if_pos hc, if_pos hc, ← ih1]
      obtain ⟨own, eo⟩ : ∃ own, own = walkN l inst side n := ⟨_, rfl⟩
      rw [← eo] at ih1 ih2 ih3 ⊢
      have hid : ∀ a ∈ own, a.side = side ∧ a.id < l[n].id := fun a ha => ⟨(ih3 a ha).1, (ih3 a ha).2 n hnl (Nat.le_refl _)⟩
      obtain ⟨k1, k2, k3⟩ := rpos_at ih2 hid hc.2
      have hI : insP own l[n] = insR own l[n] := by rw [insP, insR, k1]
      refine ⟨hI, ?_, fun a ha => ?_⟩
      · rw [hI, insR]
        have hsp : (own.take (rpos l[n] own) ++ own.drop (rpos l[n] own)).Pairwise Rb := by rw [List.take_append_drop]; exact ih2
        obtain ⟨p1, p2, p3⟩ := List.pairwise_append.1 hsp
        refine List.pairwise_append.2 ⟨p1, List.pairwise_cons.2 ⟨fun b hb => ?_, p2⟩, fun a ha b hb => ?_⟩
        · have h1 := k3 b hb
          have hb' := List.mem_of_mem_drop hb
          have h2 := hid b hb'
          refine ⟨?_, by omega⟩
          unfold betterB at h1 ⊢
          rw [hc.2] at h1
          rw [h2.1]
          by_cases hs1 : side = 1
          · simp [hs1] at h1 ⊢; omega
          · simp [hs1] at h1 ⊢; omega
        · rcases List.mem_cons.1 hb with rfl | hb
          · have := hid a (List.mem_of_mem_take ha)
            exact ⟨k2 a ha, by omega⟩
          · exact p3 a ha b hb
      · rcases insP_mem ha with rfl | ha
        · exact ⟨hc.2, fun m hm h => ordB_id l.length (Nat.le_refl _) ho n m hnl hm (by omega) hm⟩
        · exact ⟨(ih3 a ha).1, fun m hm h => (ih3 a ha).2 m hm (by omega)⟩
    · rw [if_neg hc, if_neg hc]
      exact ⟨ih1, ih2, fun a ha => ⟨(ih3 a ha).1, fun m hm h => (ih3 a ha).2 m hm (by omega)⟩⟩
end Go.Proofs.Ytpinfljbccjbkaa.T.Qu
end
section
/-! Decks: numbers that are drawn. Nothing is told of them but their bounds. -/
set_option linter.unusedVariables false
set_option linter.unusedSimpArgs false
set_option maxHeartbeats 4000000
set_option maxRecDepth 100000
namespace Go.Proofs.Ytpinfljbccjbkaa.T
open Go Go.Ab
def U64 (n : Int) : Prop := 0 ≤ n ∧ n < 18446744073709551616
def u64s (l : List Int) : List AV := l.map (AV.int .u64)
@[simp] theorem u64s_len {l : List Int} : (u64s l).length = l.length := by simp [u64s]
/-- A deck, of which at most n numbers were drawn. -/
def Dk (H : AH) (p n : Nat) : Prop := ∃ (v : AV) (L : List Int) (i : Nat), H[p]? = some (.cells [v, .int .i64 i] .rw) ∧ SL H 1 v (u64s L) ∧ (∀ x ∈ L, U64 x) ∧ (∀ b ∈ blk v, b < p) ∧ i ≤ n
theorem Dk.chg {H H' : AH} {p n : Nat} {F : List Nat} (h : Dk H p n) (c : Chg F H H') (hF : ∀ i ∈ F, p < i) : Dk H' p n := by
  obtain ⟨v, L, i, h1, h2, h3, h4, h5⟩ := h
  exact ⟨v, L, i, c.get h1 (fun hp => by have := hF p hp; omega), h2.chg c (fun b hb hf => by have := hF b hf; have := h4 b hb; omega), h3, h4, h5⟩
theorem Dk.keep {H H' : AH} {p n : Nat} (h : Dk H p n) (c : Chg [] H H') : Dk H' p n := h.chg c (by simp)
theorem Dk.more {H : AH} {p n m : Nat} (h : Dk H p n) (hm : n ≤ m) : Dk H p m := by
  obtain ⟨v, L, i, h1, h2, h3, h4, h5⟩ := h
  exact ⟨v, L, i, h1, h2, h3, h4, by omega⟩
theorem Dk.lt {H : AH} {p n : Nat} (h : Dk H p n) : p < H.length := by
  obtain ⟨v, L, i, h1, _⟩ := h
  exact lt_of_get h1
section
variable {k p n : Nat} {H : AH}
theorem next_ok (h : Dk H p n) (hn : n ≤ 1000000) : Hx (callA ap (k + 1) (.func 23 [] []) [.ptr (some (p, 0))] 0 H) fun r => ∃ x, r.1 = .int .u64 x ∧ U64 x ∧ Dk r.2 p (n + 1) ∧ Chg [p] H r.2 := by
  obtain ⟨v, L, i, h1, h2, h3, h4, h5⟩ := h
  rw [hx_go fn23 rfl, b23]
  obtain ⟨a, c, s, rfl⟩ := h2.form1
  have hw : IntKind.i64.wrap ((i : Int) + 1) = ((i + 1 : Nat) : Int) := by rw [wrap_i64 (by omega) (by omega)]; omega
  have fin : ∀ {H2 : AH}, Chg [] H H2 → Dk (H2.set p (.cells [.slice a (u64s L).length c s, .int .i64 ((i + 1 : Nat) : Int)] .rw)) p (n + 1) ∧ Chg [p] H (H2.set p (.cells [.slice a (u64s L).length c s, .int .i64 ((i + 1 : Nat) : Int)] .rw)) := fun {H2} c2 => by
    have g := c2.get h1 (by simp)
    refine ⟨⟨_, L, i + 1, List.getElem?_set_self (lt_of_get g), (h2.keep c2).chg (.set _ _ _) (fun b hb => by have := h4 b hb; simp; omega), h3, h4, by omega⟩, c2.nil.trans (.set _ _ _) (by simp)⟩
  simp [f23, b23]
  refine hx_drawn dc23_2 fun H1 c1 hl1 hd1 => ?_
  have g1 := rowOf_rw (c1.get h1 (by simp))
  by_cases hi : i < L.length
  · simp [d23_2, eqV, g1, hi]
    refine hx_drawn dc23_3 fun H2 c2 hl2 hd2 => ?_
    have c2 := c1.tr c2
    have g2 := c2.get h1 (by simp)
    obtain ⟨b0, o0, c0, r0, e0, k1, k2⟩ := (h2.keep c2).get1 (i := i) (by simpa using hi)
    injection e0 with z1 z2 z3 z4
    subst z1 z3 z4
    have k2 : r0[o0 + i]? = some (.int .u64 L[i]) := by rw [k2]; simp [u64s, hi]
    have hx : U64 L[i] := h3 _ (List.getElem_mem hi)
    generalize L[i] = x at *
    have f2 := fin c2
    simp only [u64s_len] at f2
    simp [d23_3, eqV, rowOf_rw g2, rowRw_rw g2, k1, k2, hi, hw]
    exact ⟨hx, f2⟩
  · have f1 := fin c1
    simp only [u64s_len] at f1
    have g2 := c1.get h1 (by simp)
    simp [d23_2, eqV, g1, hi, rowRw_rw g2, hw]
    exact ⟨⟨by omega, by omega⟩, f1⟩
theorem wrap_u64_in {x : Int} (h : U64 x) : IntKind.u64.wrap x = x := wraps_u64 x h.1 (by have := h.2; omega)
theorem n_ok (h : Dk H p n) (hn : n ≤ 1000000) {m : Int} (h1 : 1 ≤ m) (h2 : m ≤ 1000000000000) : Hx (callA ap (k + 2) (.func 10 [] []) [.ptr (some (p, 0)), .int .i64 m] 0 H) fun r => ∃ x, r.1 = .int .i64 x ∧ (0 ≤ x ∧ x < m) ∧ Dk r.2 p (n + 1) ∧ Chg [p] H r.2 := by
  rw [hx_go fn10 rfl, b10]
  simp [f10, b10]
  refine Hx.mapp (next_ok h hn) ?_
  rintro ⟨r, H2⟩ ⟨x, e, hx, hd, c⟩
  simp only at e hd c
  subst e
  have hm : IntKind.u64.wrap m = m := wrap_u64_in ⟨by omega, by omega⟩
  have hm0 : ¬ m = 0 := by omega
  have ht : x.tmod m = x % m := Int.tmod_eq_emod_of_nonneg hx.1
  have h3 := Int.emod_nonneg x hm0
  have h4 := Int.emod_lt_of_pos x (b := m) (by omega)
  have hw : IntKind.i64.wrap (x % m) = x % m := wrap_i64 (by omega) (by omega)
  simp [hm, hm0, ht, hw]
  exact ⟨⟨h3, h4⟩, hd, c⟩
theorem of_ok {v : AV} {L : List Int} (h : SL H 1 v (u64s L)) (hL : ∀ x ∈ L, U64 x) : Hx (callA ap (k + 1) (.func 8 [] []) [v] 0 H) fun r => r.1 = .ptr (some (H.length, 0)) ∧ Dk r.2 H.length 0 ∧ Chg [] H r.2 := by
  rw [hx_go fn8 rfl, b8]
  obtain ⟨a, c, s, rfl⟩ := h.form1
  simp only [u64s_len] at h
  simp [f8, b8]
  refine ⟨⟨.slice a L.length c s, L, 0, by simp, by simpa using h.keep (.app _ _), hL, fun b hb => ?_, Nat.le_refl 0⟩, .app _ _⟩
  exact h.lt b hb
end
end Go.Proofs.Ytpinfljbccjbkaa.T
end
section
/-! Arguments of a law: a row of uint64. -/
set_option linter.unusedVariables false
set_option linter.unusedSimpArgs false
namespace Go.Proofs.Ytpinfljbccjbkaa.T
open Go Go.Ab
theorem ar_u64s {m : Nat} {H : AH} {t e : Nat} {ti te : TI} {al : List AV} (h : AR ap m H t al) (ht : ap.ty t = some ti) (htd : ti.td = .slice e) (he : ap.ty e = some te) (hed : te.td = .int .u64) (hes : te.sz = 1) :
    ∃ v L, al = [v] ∧ SL H 1 v (u64s L) ∧ ∀ x ∈ L, U64 x := by
  obtain ⟨v, es, m2, rfl, hs, hx⟩ := ar_slice h ht htd he
  rw [hes] at hs
  obtain ⟨l, hl, hq⟩ := list_choose (R := fun (x : List AV) (a : Int) => x = [.int .u64 a] ∧ U64 a) es (fun x hm => by
    obtain ⟨z, rfl, w⟩ := ar_int (hx x hm).2 he hed
    refine ⟨z, rfl, ?_⟩
    simp [Lit.wf, IntKind.has, IntKind.min, IntKind.max, IntKind.bits, IntKind.signed] at w
    unfold U64; omega)
  have hes : es.flatten = u64s l := by
    have : es = l.map fun a => [AV.int .u64 a] := by
      refine List.ext_getElem? fun i => ?_
      rw [List.getElem?_map]
      by_cases hi : i < es.length
      · have := hq i es[i] l[i] (List.getElem?_eq_getElem hi) (List.getElem?_eq_getElem (by omega))
        rw [List.getElem?_eq_getElem hi, List.getElem?_eq_getElem (by omega), this.1]
        rfl
      · rw [List.getElem?_eq_none (by omega), List.getElem?_eq_none (by omega)]
        rfl
    rw [this]
    unfold u64s
    clear hs hq hl hx this
    induction l with
    | nil => rfl
    | cons x l ih => simp only [List.map_cons, List.flatten_cons, List.singleton_append]; rw [ih]
  refine ⟨v, l, rfl, by rw [hes] at hs; exact hs, fun x hm => ?_⟩
  obtain ⟨i, hi⟩ := List.getElem?_of_mem hm
  have hil : i < l.length := (List.getElem?_eq_some_iff.1 hi).1
  exact (hq i _ _ (List.getElem?_eq_getElem (by omega : i < es.length)) hi).2
theorem wf_u8 {z : Int} (h : (Lit.int .u8 z).wf = true) : 0 ≤ z ∧ z < 256 := by
  simp [Lit.wf, IntKind.has, IntKind.min, IntKind.max, IntKind.bits, IntKind.signed] at h
  omega
theorem wf_i64' {z : Int} (h : (Lit.int .i64 z).wf = true) : I64 z := by
  simp [Lit.wf, IntKind.has, IntKind.min, IntKind.max, IntKind.bits, IntKind.signed] at h
  unfold I64; omega
end Go.Proofs.Ytpinfljbccjbkaa.T
end
section
/-! Rows of one's own; Contains, Clone, Delete; Add, Cancel, Drop of the program. -/
set_option linter.unusedVariables false
set_option linter.unusedSimpArgs false
set_option maxHeartbeats 4000000
set_option maxRecDepth 100000
namespace Go.Proofs.Ytpinfljbccjbkaa.T.Qu
open Go Go.Ab
/-- A row of one's own, or one of no room at all. -/
inductive Og (H : AH) (sz : Nat) : AV → List AV → Prop
  | mine {v : AV} {cs : List AV} (h : Mine H sz v cs) : Og H sz v cs
  | zero {b : Nat} (h : rowOf H b = some []) : Og H sz (.slice (some (b, 0)) 0 (some 0) sz) []
section
variable {k p n sz : Nat} {H : AH}
theorem Og.chg {v : AV} {cs : List AV} {F : List Nat} {H' : AH} (h : Og H sz v cs) (c : Chg F H H') (hF : ∀ i ∈ blk v, i ∉ F) : Og H' sz v cs := by
  cases h with
  | mine h => exact .mine (h.chg c hF)
  | zero h => exact .zero (c.row h (hF _ (by simp)))
theorem Og.sl {v : AV} {cs : List AV} (h : Og H sz v cs) (hz : 0 < sz) : SL H sz v cs := by
  cases h with
  | mine h => exact h.sl
  | zero h => exact SL.cap0 hz h (by simp)
theorem Og.append {by_ : Nat} {v x : AV} {cs xs : List AV} (h : Og H sz v cs) (hx : SL H sz x xs) (hz : 0 < sz) (hb : 0 < by_) (h1 : xs.all AV.one = true) (hr : (cs.length + xs.length) * by_ ≤ room) :
    Hx (aappend 0 H sz by_ v x) fun r => Og r.2 sz r.1 (cs ++ xs) ∧ Chg (blk v) H r.2 ∧ ∀ i ∈ blk r.1, i ∈ blk v ∨ H.length ≤ i := by
  cases h with
  | mine h => exact (h.append hx hz hb h1 hr).mono fun r ⟨a, b, c⟩ => ⟨.mine a, b, c⟩
  | @zero b h =>
    obtain ⟨a, n, c, s, rfl, hn⟩ := hx.form
    have hf := hx.first hn
    have hs := hx.sz_ok
    have hs0 : szOk sz (.slice (some (b, 0)) 0 (some 0) sz) = true := by simp [szOk]
    rw [aappend_eq, hs, hs0]
    simp only [lenOf, Option.bind_some, hf, h1, Bool.true_eq_false, if_false, aappendC, h, decide_eq_true hz, decide_eq_true hb, Bool.and_self, if_true, tag_eq]
    by_cases h0 : n = 0
    · subst h0
      have : xs = [] := by simpa using hn.symm
      subst this
      simp
      exact ⟨.zero h, .refl⟩
    · have hroom : n * by_ ≤ room := by
        refine Nat.le_trans (Nat.mul_le_mul_right by_ ?_) hr
        rw [← hn]
        exact Nat.le_trans (Nat.le_mul_of_pos_right _ hz) (Nat.le_add_left _ _)
      simp [h0, hroom]
      refine ⟨.mine ?_, Chg.app _ _⟩
      have hk := Mine.new (H := H) (X := H ++ [.cells xs .rw]) (l := xs) (n := n) (c := none) hz rfl (by omega) (by simp)
      rw [hn, List.take_length] at hk
      exact hk

theorem clone_og {v : AV} {l : List Od} (h : SO H v l) (hl : l.length ≤ 1000000) :
    Hx (callA ap (k + 1) (.func 34 [] []) [v] 0 H) fun r => Chg [] H r.2 ∧ Og r.2 6 r.1 (odsC l) ∧ ∀ i ∈ blk r.1, H.length ≤ i := by
  rw [hx_go fn34 rfl, b34]
  obtain ⟨a, c, s, rfl⟩ := h.form
  cases a with
  | none =>
    have h0 : l = [] := by
      by_cases h0 : l = []
      · exact h0
      · obtain ⟨b, o, c', r, e, -⟩ := SO.all h h0
        cases e
    subst h0
    simp [eqV]
    exact ⟨.refl, .mine (.nil _ _)⟩
  | some p =>
    have hap := append0 (H := H ++ [.cells [] .pl]) (b := H.length) (by simp [rowOf]) (h.keep (.app _ _)) hl
    by_cases h0 : l = []
    · subst h0
      rw [if_pos rfl] at hap
      simp only [List.length_nil] at hap
      simp [eqV, hap]
      exact ⟨.app _ _, .zero (by simp [rowOf])⟩
    · rw [if_neg h0] at hap
      simp [eqV, hap]
      exact ⟨.app _ _, .mine (.row _ l.length none (odsC l) _ (by omega) (by simp) (by simp; omega) (List.take_of_length_le (by simp; omega)) (by simp))⟩
/-! rows of ints -/
def ints (l : List Int) : List AV := l.map (AV.int .i64)
@[simp] theorem ints_len {l : List Int} : (ints l).length = l.length := by simp [ints]
def idxI (x : Int) (l : List Int) : Int := match l.findIdx? (fun y => decide (x = y)) with
  | some i => i
  | none => -1
theorem index_ok {v : AV} {l : List Int} {x : Int} (h : SL H 1 v (ints l)) (hl : l.length ≤ 1000000) (hk : l.length + 10 < k) :
    callA ap (k + 1) (.func 46 [] []) [v, .int .i64 x] 0 H = some (.int .i64 (idxI x l), H) := by
  refine Hx.eqn ?_
  rw [hx_gg fn46 rfl, b46]
  obtain ⟨a, c, s, rfl⟩ := h.form1
  simp
  refine hx_up (fun i st => ∃ H', st = ⟨sp 19 [(0, .slice a l.length c s), (1, .int .i64 x), (7, .int .i64 l.length), (8, .int .i64 i)], H', []⟩ ∧ Chg [] H H' ∧ ∀ j (hj : j < l.length), j < i → ¬ x = l[j]) l.length ?_ ?_ (by omega) ⟨H, by simp [maskS], .refl, by simp⟩
  · rintro i st hi ⟨H2, rfl, c2, ho⟩
    have hi' : (i : Int) < l.length := by omega
    have w : IntKind.i64.wrap ((i : Int) + 1) = (i : Int) + 1 := wrap_i64 (by omega) (by omega)
    obtain ⟨b, o, c', r, e, g0, g1⟩ := (h.keep c2).get1 (i := i) (by simpa using hi)
    obtain ⟨z1, z2, z3, z4⟩ := AV.slice.inj e
    subst z1 z3 z4
    have hlx : (ints l)[i]? = some (.int .i64 l[i]) := by simp [ints, hi]
    rw [hlx] at g1
    obtain ⟨y, hy⟩ : ∃ y, y = l[i] := ⟨_, rfl⟩
    rw [← hy] at g1
    by_cases hp : x = y
    · have hid : idxI x l = (i : Int) := by
        have : l.findIdx? (fun y => decide (x = y)) = some i := by
          rw [List.findIdx?_eq_some_iff_getElem]
          exact ⟨hi, by rw [← hy]; simpa using hp, fun j hj => by simpa using ho j (by omega) hj⟩
        simp [idxI, this]
      simp [hi', hi, g0, g1, hp, gcF_flat, c2]
      rw [← hp, hid]
    · simp [hi', hi, g0, g1, hp, maskS, w]
      refine ⟨c2, fun j hj hji => ?_⟩
      by_cases hjj : j = i
      · subst hjj; rw [← hy]; exact hp
      · exact ho j hj (by omega)
  · rintro st ⟨H2, rfl, c2, ho⟩
    have hid : idxI x l = -1 := by
      have : l.findIdx? (fun y => decide (x = y)) = none := by
        rw [List.findIdx?_eq_none_iff]
        intro y hy
        obtain ⟨j, hj, rfl⟩ := List.getElem_of_mem hy
        simpa using ho j hj hj
      simp [idxI, this]
    simp [hid, gcF_flat, c2]
theorem idxI_mem {x : Int} {l : List Int} : decide (0 ≤ idxI x l) = l.contains x := by
  unfold idxI
  cases h : l.findIdx? (fun y => decide (x = y)) with
  | none =>
    rw [List.findIdx?_eq_none_iff] at h
    have : l.contains x = false := by
      rw [Bool.eq_false_iff]
      intro hc
      have := h x (by simpa using hc)
      simp at this
    rw [this]; rfl
  | some i =>
    rw [List.findIdx?_eq_some_iff_getElem] at h
    obtain ⟨h1, h2, h3⟩ := h
    have h2 : x = l[i] := by simpa using h2
    have : l.contains x = true := by rw [h2]; simp
    rw [this]; simp
theorem contains_ok {v : AV} {l : List Int} {x : Int} (h : SL H 1 v (ints l)) (hl : l.length ≤ 1000000) (hk : l.length + 10 < k) :
    callA ap (k + 2) (.func 40 [] []) [v, .int .i64 x] 0 H = some (.bool (l.contains x), H) := by
  refine Hx.eqn ?_
  rw [hx_gg fn40 rfl, b40]
  have key := index_ok (x := x) h hl hk
  obtain ⟨a, c, s, rfl⟩ := h.form1
  rw [← idxI_mem]
  simp only [ints_len] at key
  simp [key]
theorem drop1_ok {v : AV} {l : List Int} {x : Od} {c : Nat} (h : SL H 1 v (ints l)) (hc : rowOf H c = some [v]) (hl : l.length ≤ 1000000) (hk : l.length + 10 < k) : callA ap (k + 3) (.func 39 [] [.ptr (some (c, 0))]) [.agg x.cs] 0 H = some (.bool (l.contains x.acc), H) := by
  refine Hx.eqn ?_
  rw [hx_gg fn39 rfl, b39]
  have hc' : ∀ X, rowOf (H ++ X) c = some [v] := fun X => (Chg.app (F := []) H X).row hc (by simp)
  have hk := fun X => contains_ok (x := x.acc) (h.keep (Chg.app H X)) hl hk
  obtain ⟨a, c, s, rfl⟩ := h.form1
  simp only [ints_len] at hk hc'
  simp [Od.cs, hc', hk]
theorem cancel1_ok {id acc : Int} {x : Od} {p q : Nat} (hp : rowOf H p = some [.int .i64 id]) (hq : rowOf H q = some [.int .i64 acc]) : callA ap (k + 1) (.func 36 [] [.ptr (some (p, 0)), .ptr (some (q, 0))]) [.agg x.cs] 0 H = some (.bool (decide (x.id = id) && decide (x.acc = acc)), H) := by
  refine Hx.eqn ?_
  rw [hx_gg fn36 rfl, b36]
  have hp' : ∀ X, rowOf (H ++ X) p = some _ := fun X => (Chg.app (F := []) H X).row hp (by simp)
  have hq' : ∀ X, rowOf (H ++ X) q = some _ := fun X => (Chg.app (F := []) H X).row hq (by simp)
  by_cases h1 : x.id = id
  · simp [Od.cs, hp', hq', h1]
  · simp [Od.cs, hp', hq', h1]
theorem eraseIdx_cs {l : List Od} {i : Nat} (hi : i < l.length) : odsC (l.take i) ++ odsC (l.drop (i + 1)) = odsC (l.eraseIdx i) := by
  rw [List.eraseIdx_eq_take_drop_succ, odsC_app]
theorem app_del {b n i : Nat} {c : Option Nat} {R : List AV} {l : List Od} (hl : l.length = n) (hn : n ≤ 1000000) (hi : i < n) (h1 : H[b]? = some (.cells R .rw)) (h2 : n * 6 ≤ R.length) (h3 : R.take (n * 6) = odsC l) (h4 : ∀ k, c = some k → R.length = k * 6) :
    ∃ R', R'.length = R.length ∧ R'.take ((n - 1) * 6) = odsC (l.eraseIdx i) ∧ aappend 0 H 6 48 (.slice (some (b, 0)) i c 6) (.slice (some (b, (i + 1) * 6)) (n - (i + 1)) (c.map (· - (i + 1))) 6) = some (.slice (some (b, 0)) (n - 1) c 6, H.set b (.cells R' .rw)) := by
  have hx : (R.drop ((i + 1) * 6)).take ((n - (i + 1)) * 6) = odsC (l.drop (i + 1)) := by
    rw [← odsC_drop, ← h3, List.drop_take]
    congr 1
    omega
  have hpre : R.take (i * 6) = odsC (l.take i) := by
    rw [← odsC_take, ← h3, List.take_take]
    congr 1
    omega
  have hf : firstC H 6 (n - (i + 1)) (.slice (some (b, (i + 1) * 6)) (n - (i + 1)) (c.map (· - (i + 1))) 6) = some (odsC (l.drop (i + 1))) := by
    simp [rowOf_rw h1, hx]
    omega
  rw [aappend_eq, if_pos (by simp [szOk])]
  simp only [lenOf, Option.bind_some, hf, odsC_one, Bool.true_eq_false, if_false, aappendC, rowOf_rw h1, rowRw_rw h1, Nat.zero_add]
  by_cases h0 : n - (i + 1) = 0
  · have hin : i = n - 1 := by omega
    refine ⟨R, rfl, ?_, ?_⟩
    · rw [← hin, hpre, ← eraseIdx_cs (by omega), List.drop_eq_nil_of_le (by omega)]
      simp [odsC]
    · have hb := lt_of_get h1
      have hg : H[b] = .cells R .rw := by rw [List.getElem?_eq_getElem hb] at h1; exact Option.some.inj h1
      rw [if_pos h0, ← hin, ← hg, List.set_getElem_self]
  · have hle : i * 6 ≤ R.length := by omega
    have hle2 : (i + (n - (i + 1))) * 6 ≤ R.length := by omega
    have hn1 : i + (n - (i + 1)) = n - 1 := by omega
    refine ⟨splice R (i * 6) (odsC (l.drop (i + 1))), ?_, ?_, ?_⟩
    · simp [splice]; omega
    · unfold splice
      rw [hpre, List.take_append_of_le_length (by simp; omega), List.take_of_length_le (by simp; omega), eraseIdx_cs (by omega)]
    · cases c with
      | none =>
        have hroom : (i + (n - (i + 1))) * 48 ≤ room := by unfold room; omega
        simp only [h0, hle, hle2, if_true, if_false, Option.bind_some, hroom]
        rw [hn1]
      | some k =>
        have hk := h4 k rfl
        have hik : i + (n - (i + 1)) ≤ k := by omega
        simp only [h0, hle, hle2, hik, if_true, if_false, Option.bind_some]
        rw [hn1]
theorem deleteAt_ok {v : AV} {l : List Od} {i : Nat} (h : Og H 6 v (odsC l)) (hi : i < l.length) (hl : l.length ≤ 1000000) :
    Hx (callA ap (k + 1) (.func 37 [] []) [v, .int .i64 i, .int .i64 (i + 1)] 0 H) fun r => Og r.2 6 r.1 (odsC (l.eraseIdx i)) ∧ Chg (blk v) H r.2 ∧ ∀ b ∈ blk r.1, b ∈ blk v := by
  rw [hx_go fn37 rfl, b37]
  obtain ⟨cs, ecs⟩ : ∃ cs, cs = odsC l := ⟨_, rfl⟩
  have hne : cs ≠ [] := by
    intro h0
    rw [ecs] at h0
    have := congrArg List.length h0
    rw [odsC_len] at this
    simp only [List.length_nil] at this
    omega
  rw [← ecs] at h
  cases h with
  | zero h => exact (hne rfl).elim
  | mine h =>
  cases h with
  | nil c s => exact (hne rfl).elim
  | row b n c R _ hz h1 h2 h3 h4 =>
    rw [ecs] at h3
    have hn : n = l.length := by
      have := congrArg List.length h3
      simp at this
      omega
    subst hn
    obtain ⟨m, hm⟩ : ∃ m, l.length = m + 1 := ⟨l.length - 1, by omega⟩
    have hi' : (i : Int) < l.length := by omega
    have hne2 : ¬ (i : Int) = (i : Int) + 1 := by omega
    have hs3 : aslice H 6 (.slice (some (b, 0)) l.length c 6) (some (.int .i64 i)) (some (.int .i64 (i + 1))) (some (.int .i64 l.length)) = some (.slice (some (b, i * 6)) 1 (some (l.length - i)) 6) := by
      have e1 : (0 : Int) ≤ i := by omega
      have e2 : (i : Int) + 1 ≤ l.length := by omega
      have e3 : ((i : Int) + 1).toNat - i = 1 := by omega
      have e4 : ((i : Int) + 1).toNat = i + 1 := by omega
      have e5 : (0 : Int) ≤ (i : Int) + 1 := by omega
      have e6 : (i : Int) ≤ (i : Int) + 1 := by omega
      cases c with
      | none => simp [aslice, abound, e1, e2, e3, e4, e5, e6]
      | some k =>
        have := h4 k rfl
        have e7 : l.length ≤ k := by omega
        simp [aslice, abound, e1, e2, e3, e4, e5, e6, e7]
    have hs1 := fun (H : AH) => @aslice_high H l.length i b c (by omega) (fun k e => by have := h4 k e; omega)
    have hs2 : ∀ (H : AH), aslice H 6 (.slice (some (b, 0)) l.length c 6) (some (.int .i64 ((i : Int) + 1))) none none = some (.slice (some (b, (i + 1) * 6)) (l.length - (i + 1)) (c.map (· - (i + 1))) 6) := fun H => @aslice_low H l.length (i + 1) b c (by omega)
    simp [hs3, hne2]
    refine hx_drawn dc37_5 fun X cX _ _ => ?_
    obtain ⟨R', r1, r2, r3⟩ := app_del (l := l) rfl hl hi (cX.get h1 (by simp)) h2 h3 h4
    obtain ⟨X2, e2⟩ : ∃ X2, X2 = X.set b (.cells R' .rw) := ⟨_, rfl⟩
    have g2 : X2[b]? = some (.cells R' .rw) := by rw [e2]; exact List.getElem?_set_self (lt_of_get (cX.get h1 (by simp)))
    have cX2 : Chg [b] H X2 := by rw [e2]; exact cX.nil.tr' (.set _ _ _)
    have w2 : rowRw X2 0 b = some R' := rowRw_rw g2
    have e0 : l.length - 1 = m := by omega
    rw [e0] at r2 r3
    have hs4 : aslice X2 6 (.slice (some (b, 0)) m c 6) (some (.int .i64 m)) (some (.int .i64 ((m : Int) + 1))) none = some (.slice (some (b, m * 6)) 1 (c.map (· - m)) 6) := by
      have e1 : (0 : Int) ≤ m := by omega
      have e3 : ((m : Int) + 1).toNat = m + 1 := by omega
      have e5 : (0 : Int) ≤ (m : Int) + 1 := by omega
      have e6 : (m : Int) ≤ (m : Int) + 1 := by omega
      cases c with
      | none =>
        have e7 : ¬ (m : Int) + 1 ≤ m := by omega
        have e8 : (m : Int) + 1 ≤ R'.length := by omega
        have e9 : (m + 1) * 6 ≤ R'.length := by omega
        simp [aslice, abound, e1, e3, e5, e6, e7, e8, e9, rowOf_rw g2]
      | some k =>
        have := h4 k rfl
        have e7 : (m : Int) + 1 ≤ k := by omega
        simp [aslice, abound, e1, e3, e5, e6, e7]
    have hb2 : m * 6 + 6 ≤ R'.length := by omega
    have hmi : (i : Int) < (m : Int) + 1 := by omega
    rw [hm] at r3 hs1 hs2 ⊢
    have hs1' := hs1 X
    have hs2' := hs2 X
    rw [show m + 1 - (i + 1) = m - i by omega] at r3
    simp only [Int.natCast_add, Int.cast_ofNat_Int] at hs1' hs2' ⊢
    simp [d37_5, hs1', hs2', r3]
    rw [← e2]
    simp [hs4, w2, hb2]
    refine ⟨.mine (.row b m c _ _ (by omega) (List.getElem?_set_self (lt_of_get g2)) (by simp; omega) ?_ (fun k e => by have := h4 k e; simp; omega)), cX2.tr' (.set _ _ _)⟩
    rw [List.take_append_of_le_length (by simp; omega), List.take_of_length_le (by simp; omega), r2]
end
end Go.Proofs.Ytpinfljbccjbkaa.T.Qu
end
section
/-! Add, Cancel, Drop of the program. -/
set_option linter.unusedVariables false
set_option linter.unusedSimpArgs false
set_option maxHeartbeats 4000000
set_option maxRecDepth 100000
namespace Go.Proofs.Ytpinfljbccjbkaa.T.Qu
open Go Go.Ab
def addBad (l : List Od) (o : Od) : Bool := !rightL l || (!rightO o || (decide (0 < l.length) && decide (o.id ≤ (l.getD (l.length - 1) dO).id)))
def addB (l : List Od) (o : Od) : List Od × Int := if addBad l o = true then ([], 1) else if l.length = 32 then ([], 5) else (l ++ [o], 0)
def cancelB (l : List Od) (acc id : Int) : List Od × Int := if rightL l = true then (match l.findIdx? (fun x => decide (x.id = id) && decide (x.acc = acc)) with | some i => (l.eraseIdx i, 0) | none => ([], 3)) else ([], 1)
def dropB (l : List Od) (accs : List Int) : List Od := if rightL l = true then l.filter fun x => !accs.contains x.acc else []
section
variable {k p n : Nat} {H : AH}
theorem add_ok {v : AV} {l : List Od} {o : Od} (h : SO H v l) (hl : l.length ≤ 1000000) (hk : l.length + 60 < k) : Hx (callA ap k (.func 15 [] []) [v, .agg o.cs] 0 H) fun r => ∃ vr, r.1 = .tuple [vr, .int .i64 (addB l o).2] ∧ SO r.2 vr (addB l o).1 ∧ Chg [] H r.2 := by
  obtain ⟨k, rfl⟩ : ∃ k', k = k' + 9 := ⟨k - 9, by omega⟩
  rw [hx_go fn15 rfl, b15]
  obtain ⟨a, c, s, rfl⟩ := h.form
  obtain ⟨G, eG⟩ : ∃ G, G = H ++ [.cells o.cs .rw] := ⟨_, rfl⟩
  have cG : Chg [] H G := by rw [eG]; exact .app _ _
  have gG : G[H.length]? = some (.cells o.cs .rw) := by rw [eG]; simp
  simp only [Od.cs] at eG
  simp [Od.cs]
  rw [← eG]
  refine hx_drawn dc15_1 fun X cX _ _ => ?_
  have cX' := cG.tr cX
  have hX := h.keep cX'
  have rX := rowOf_rw (cX.get gG (by simp))
  have hr := right_ok (k := k + 8) hX hl (by omega)
  have ho := order_ok (k := k + 7) (H := X) (o := o)
  simp only [Od.cs] at rX ho
  cases hrr : rightL l with
  | false =>
    have hA : addB l o = ([], 1) := by simp [addB, addBad, hrr]
    rw [hA]
    rw [hrr] at hr
    simp [d15_1, hr]
    exact ⟨.nil _ _, cX'⟩
  | true =>
  rw [hrr] at hr
  cases hoo : rightO o with
  | false =>
    have hA : addB l o = ([], 1) := by simp [addB, addBad, hoo]
    rw [hA]
    rw [hoo] at ho
    simp [d15_1, hr, rX, ho]
    exact ⟨.nil _ _, cX'⟩
  | true =>
  rw [hoo] at ho
  have hX' := hX
  by_cases h0 : 0 < l.length
  · obtain ⟨m, hm⟩ : ∃ m, l.length = m + 1 := ⟨l.length - 1, by omega⟩
    obtain ⟨b, ob, c', r, e, g0, gg⟩ := SO.all hX (by intro h; simp [h] at h0)
    obtain ⟨z1, z2, z3, z4⟩ := AV.slice.inj e
    subst z1 z3 z4
    obtain ⟨y, ey⟩ : ∃ y, y = l[m] := ⟨_, rfl⟩
    have f0 := (gg m (by omega)).2.2 0 (by omega)
    rw [← ey] at f0
    simp only [Od.cs, Nat.add_zero, List.getElem?_cons_zero] at f0
    have hgd : l.getD (l.length - 1) dO = y := by rw [hm, Nat.add_sub_cancel, getd (by omega : m < l.length), ey]
    have hp : (0 : Int) < l.length := by omega
    have w1 : IntKind.i64.wrap ((l.length : Int) - 1) = (m : Int) := by rw [wrap_i64 (by omega) (by omega)]; omega
    have hlt : (m : Int) < l.length := by omega
    have hlt' : m < l.length := by omega
    by_cases hid : o.id ≤ y.id
    · have hA : addB l o = ([], 1) := by rw [addB, addBad, hrr, hoo, hgd]; simp [h0, hid]
      rw [hA]
      simp [d15_1, hr, rX, ho, w1, h0, hp, hlt, hlt', g0, f0, hid]
      exact ⟨.nil _ _, cX'⟩
    · have hB : addBad l o = false := by rw [addBad, hrr, hoo, hgd]; simp [hid]
      simp [d15_1, hr, rX, ho, w1, h0, hp, hlt, hlt', g0, f0, hid]
      by_cases h32 : l.length = 32
      · have hA : addB l o = ([], 5) := by rw [addB, hB, h32]; simp
        have h32' : (l.length : Int) = 32 := by omega
        rw [hA]
        simp [h32, h32']
        exact ⟨.nil _ _, cX'⟩
      · have hA : addB l o = (l ++ [o], 0) := by rw [addB, hB, if_neg (by simp), if_neg h32]
        have h32' : ¬ (l.length : Int) = 32 := by omega
        rw [hA]
        simp [h32, h32']
        refine hx_drawn dc15_5 fun Y cY hl' hd => ?_
        have gY := (cX.tr cY).get gG (by simp)
        have rY := rowOf_rw gY
        have hd3 := hd 3 (by simp [d15_5])
        have hlY : Y.length = X.length + 7 := hl'
        have hcl := clone_og (k := k + 7) (hX.keep cY) hl
        simp only [Od.cs, tag_eq] at rY hcl
        simp [d15_5, rY]
        refine Hx.mapp hcl ?_
        rintro ⟨w, Z⟩ ⟨t1, t2, t3⟩
        simp only at t1 t2 t3
        have rZ := t1.row rY (by simp)
        have hdZ := t1.get hd3 (by simp)
        obtain ⟨aw, cw, sw, rfl⟩ := SO.form (t2.sl (by omega))
        obtain ⟨Z2, e2⟩ : ∃ Z2, Z2 = Z.set (X.length + 3) (.cells o.cs .pl) := ⟨_, rfl⟩
        have cZ2 : Chg [X.length + 3] Z Z2 := by rw [e2]; exact .set _ _ _
        have rZ2 : rowOf Z2 (X.length + 3) = some o.cs := by rw [e2]; simp [rowOf, lt_of_get hdZ]
        have slY : SL Z2 6 (.slice (some (X.length + 3, 0)) 1 (some 1) 6) o.cs := .at_ _ 0 1 (some 1) o.cs _ (by omega) rZ2 (by simp [Od.cs]) (by simp [Od.cs]) (by simp)
        have hHX : H.length < X.length := by have := lt_of_get gG; have := cX.1; omega
        have rz2 := cZ2.row rZ (by simp; omega)
        have happ := Og.append (by_ := 48) (t2.chg cZ2 (fun i hi => by have := t3 i hi; simp; omega)) slY (by omega) (by omega) (by simp [Od.cs]) (by simp [room, Od.cs]; omega)
        rw [← odsC_snoc] at happ
        simp only [Od.cs] at e2
        simp only [tag_eq] at happ
        simp [rZ, hdZ, hd3]
        rw [← e2]
        refine Hx.mapp happ ?_
        rintro ⟨w2, Z3⟩ ⟨u1, u2, u3⟩
        simp only at u1 u2 u3
        obtain ⟨aw2, cw2, sw2, rfl⟩ := SO.form (u1.sl (by omega))
        have rZ3 := u2.row rz2 (fun hi => by have := t3 _ hi; have := cY.1; omega)
        simp [rz2, rZ3]
        have cHZ2 : Chg [] H Z2 := by rw [e2]; exact (cX'.tr (cY.tr t1)).set_new (by omega) _
        have us := u1.sl (by omega : 0 < 6)
        simp only [List.length_append, List.length_cons, List.length_nil, List.nil_append] at us
        exact ⟨us, cHZ2.trans u2 (fun i hi => .inr (by have := t3 i hi; have := cX'.1; have := cY.1; omega))⟩
  · have hl0 : l = [] := List.length_eq_zero_iff.1 (by omega)
    have hB : addBad l o = false := by rw [addBad, hrr, hoo]; simp [h0]
    subst hl0
    simp only [List.length_nil] at hr hX
    have hA : addB [] o = ([o], 0) := by rw [addB, hB]; simp
    rw [hA]
    simp [d15_1, hr, rX, ho]
    refine hx_drawn dc15_5 fun Y cY hl' hd => ?_
    have gY := (cX.tr cY).get gG (by simp)
    have rY := rowOf_rw gY
    have hd3 := hd 3 (by simp [d15_5])
    have hlY : Y.length = X.length + 7 := hl'
    have hcl := clone_og (k := k + 7) (hX.keep cY) hl
    simp only [Od.cs, tag_eq] at rY hcl
    simp [d15_5, rY]
    refine Hx.mapp hcl ?_
    rintro ⟨w, Z⟩ ⟨t1, t2, t3⟩
    simp only at t1 t2 t3
    have rZ := t1.row rY (by simp)
    have hdZ := t1.get hd3 (by simp)
    obtain ⟨aw, cw, sw, rfl⟩ := SO.form (t2.sl (by omega))
    obtain ⟨Z2, e2⟩ : ∃ Z2, Z2 = Z.set (X.length + 3) (.cells o.cs .pl) := ⟨_, rfl⟩
    have cZ2 : Chg [X.length + 3] Z Z2 := by rw [e2]; exact .set _ _ _
    have rZ2 : rowOf Z2 (X.length + 3) = some o.cs := by rw [e2]; simp [rowOf, lt_of_get hdZ]
    have slY : SL Z2 6 (.slice (some (X.length + 3, 0)) 1 (some 1) 6) o.cs := .at_ _ 0 1 (some 1) o.cs _ (by omega) rZ2 (by simp [Od.cs]) (by simp [Od.cs]) (by simp)
    have hHX : H.length < X.length := by have := lt_of_get gG; have := cX.1; omega
    have rz2 := cZ2.row rZ (by simp; omega)
    have happ := Og.append (by_ := 48) (t2.chg cZ2 (fun i hi => by have := t3 i hi; simp; omega)) slY (by omega) (by omega) (by simp [Od.cs]) (by simp [room, Od.cs])
    rw [← odsC_snoc] at happ
    simp only [Od.cs] at e2
    simp only [tag_eq] at happ
    simp [rZ, hdZ, hd3]
    rw [← e2]
    refine Hx.mapp happ ?_
    rintro ⟨w2, Z3⟩ ⟨u1, u2, u3⟩
    simp only at u1 u2 u3
    obtain ⟨aw2, cw2, sw2, rfl⟩ := SO.form (u1.sl (by omega))
    have rZ3 := u2.row rz2 (fun hi => by have := t3 _ hi; have := cY.1; omega)
    simp [rz2, rZ3]
    have cHZ2 : Chg [] H Z2 := by rw [e2]; exact (cX'.tr (cY.tr t1)).set_new (by omega) _
    have us := u1.sl (by omega : 0 < 6)
    simp only [List.length_append, List.length_cons, List.length_nil, List.nil_append] at us
    exact ⟨us, cHZ2.trans u2 (fun i hi => .inr (by have := t3 i hi; have := cX'.1; have := cY.1; omega))⟩
theorem eraseIdx_len {l : List Od} {i : Nat} : (l.eraseIdx i).length ≤ l.length := List.length_eraseIdx_le ..
theorem cancel_ok {v : AV} {l : List Od} {acc id : Int} (h : SO H v l) (hl : l.length ≤ 1000000) (hk : l.length + 60 < k) : Hx (callA ap k (.func 16 [] []) [v, .int .i64 acc, .int .i64 id] 0 H) fun r => ∃ vr, r.1 = .tuple [vr, .int .i64 (cancelB l acc id).2] ∧ SO r.2 vr (cancelB l acc id).1 ∧ Chg [] H r.2 := by
  obtain ⟨k, rfl⟩ : ∃ k', k = k' + 9 := ⟨k - 9, by omega⟩
  rw [hx_go fn16 rfl, b16]
  obtain ⟨a, c, s, rfl⟩ := h.form
  obtain ⟨G, eG⟩ : ∃ G, G = H ++ [.cells [.int .i64 acc] .rw, .cells [.int .i64 id] .rw] := ⟨_, rfl⟩
  have cG : Chg [] H G := by rw [eG]; exact .app _ _
  have r1 : rowOf G H.length = some [.int .i64 acc] := by rw [eG]; simp
  have r2 : rowOf G (H.length + 1) = some [.int .i64 id] := by rw [eG]; simp
  have hG := h.keep cG
  have hr := right_ok (k := k + 8) hG hl (by omega)
  have hi := indexFunc_ok (k := k + 7) hG (g := .func 36 [] [.ptr (some (H.length + 1, 0)), .ptr (some (H.length, 0))]) (by simp) hl (P := fun x => decide (x.id = id) && decide (x.acc = acc)) (fun H' x c => cancel1_ok (c.row r2 (by simp)) (c.row r1 (by simp))) (by omega)
  simp
  rw [← eG]
  cases hrr : rightL l with
  | false =>
    have hA : cancelB l acc id = ([], 1) := by rw [cancelB, hrr]; rfl
    rw [hA]
    rw [hrr] at hr
    simp [hr]
    exact ⟨.nil _ _, cG⟩
  | true =>
    rw [hrr] at hr
    cases hf : l.findIdx? (fun x => decide (x.id = id) && decide (x.acc = acc)) with
    | none =>
      have hid : idxF (fun x => decide (x.id = id) && decide (x.acc = acc)) l = -1 := by simp [idxF, hf]
      have hA : cancelB l acc id = ([], 3) := by rw [cancelB, hrr, hf]; rfl
      rw [hA]
      rw [hid] at hi
      simp [hr, hi]
      exact ⟨.nil _ _, cG⟩
    | some i =>
      have hid : idxF (fun x => decide (x.id = id) && decide (x.acc = acc)) l = (i : Int) := by simp [idxF, hf]
      have hA : cancelB l acc id = (l.eraseIdx i, 0) := by rw [cancelB, hrr, hf]; rfl
      rw [hA]
      rw [hid] at hi
      have hil : i < l.length := by
        rw [List.findIdx?_eq_some_iff_getElem] at hf
        exact hf.1
      have hn : ¬ (i : Int) < 0 := by omega
      have w : IntKind.i64.wrap ((i : Int) + 1) = (i : Int) + 1 := wrap_i64 (by omega) (by omega)
      simp [hr, hi, hn]
      refine Hx.mapp (clone_og (k := k + 7) hG hl) ?_
      rintro ⟨w1, X⟩ ⟨t1, t2, t3⟩
      simp only at t1 t2 t3
      obtain ⟨aw, cw, sw, rfl⟩ := SO.form (t2.sl (by omega))
      simp [w]
      refine Hx.mapp (deleteAt_ok (k := k + 7) t2 hil hl) ?_
      rintro ⟨w2, Y⟩ ⟨u1, u2, u3⟩
      simp only at u1 u2 u3
      obtain ⟨aw2, cw2, sw2, rfl⟩ := SO.form (u1.sl (by omega))
      have us := u1.sl (by omega : 0 < 6)
      simp
      exact ⟨us, (cG.tr t1).trans u2 (fun i hi => .inr (by have := t3 i hi; have := cG.1; omega))⟩
theorem drop_ok {v va : AV} {l : List Od} {accs : List Int} (h : SO H v l) (ha : SL H 1 va (ints accs)) (hl : l.length ≤ 1000000) (hl2 : accs.length ≤ 1000000) (hk : l.length + accs.length + 60 < k) : Hx (callA ap k (.func 18 [] []) [v, va] 0 H) fun r => SO r.2 r.1 (dropB l accs) ∧ Chg [] H r.2 := by
  obtain ⟨k, rfl⟩ : ∃ k', k = k' + 9 := ⟨k - 9, by omega⟩
  rw [hx_go fn18 rfl, b18]
  obtain ⟨a, c, s, rfl⟩ := h.form
  obtain ⟨a', c', s', rfl⟩ := ha.form1
  obtain ⟨va, eva⟩ : ∃ va, va = AV.slice a' (ints accs).length c' s' := ⟨_, rfl⟩
  obtain ⟨G, eG⟩ : ∃ G, G = H ++ [.cells [va] .rw] := ⟨_, rfl⟩
  have cG : Chg [] H G := by rw [eG]; exact .app _ _
  have r1 : rowOf G H.length = some [va] := by rw [eG]; simp
  have hG := h.keep cG
  have hr := right_ok (k := k + 8) hG hl (by omega)
  have haG := ha.keep cG
  rw [← eva] at haG
  simp
  rw [eva, ints_len] at eG
  rw [← eG]
  cases hrr : rightL l with
  | false =>
    have hA : dropB l accs = [] := by rw [dropB, hrr]; rfl
    rw [hA]
    rw [hrr] at hr
    simp [hr]
    exact ⟨.nil _ _, cG⟩
  | true =>
    rw [hrr] at hr
    have hA : dropB l accs = l.filter fun x => !accs.contains x.acc := by rw [dropB, hrr]; rfl
    simp [hr]
    refine Hx.mapp (clone_ok (k := k + 7) hG hl) ?_
    rintro ⟨w1, X⟩ ⟨t1, t2, t3⟩
    simp only at t1 t2 t3
    obtain ⟨aw, cw, sw, ew⟩ := SO.form t2.so
    have rX := t1.row r1 (by simp)
    have haX := haG.keep t1
    have hlt : ∀ i ∈ blk va, i < H.length := by rw [eva]; exact ha.lt
    have hdel := delete_ok (k := k + 6) (g := .func 39 [] [.ptr (some (H.length, 0))]) (P := fun x => accs.contains x.acc) t2 (by simp) hl (fun k' H' x hk' cc => by
      obtain ⟨k'', rfl⟩ : ∃ k'', k' = k'' + 3 := ⟨k' - 3, by omega⟩
      have nb : ∀ i, i < G.length → i ∉ blk w1 := fun i hi h => by have := t3 i h; omega
      have hGl : G.length = H.length + 1 := by rw [eG]; simp
      exact drop1_ok (haX.chg cc (fun i hi => nb i (by have := hlt i hi; omega))) (cc.row rX (nb _ (by omega))) hl2 (by omega)) (by omega)
    rw [ew] at hdel ⊢
    simp
    refine Hx.mapp hdel ?_
    rintro ⟨w2, Y⟩ ⟨u1, u2, u3⟩
    simp only at u1 u2 u3
    rw [hA]
    obtain ⟨F, eF⟩ : ∃ F, F = l.filter fun x => !accs.contains x.acc := ⟨_, rfl⟩
    rw [← eF] at u1 ⊢
    obtain ⟨aw2, cw2, sw2, ew2⟩ := SO.form u1.so
    subst ew2
    simp
    exact ⟨u1.so, (cG.tr t1).trans u2 (fun i hi => .inr (by have := t3 i (by rw [ew]; exact hi); have := cG.1; omega))⟩
end
end Go.Proofs.Ytpinfljbccjbkaa.T.Qu
end
section
/-! What accounts have open: the program's, the document's; are rows of it alike? -/
set_option linter.unusedVariables false
set_option linter.unusedSimpArgs false
set_option maxHeartbeats 4000000
set_option maxRecDepth 100000
namespace Go.Proofs.Ytpinfljbccjbkaa.T.Qu
open Go Go.Ab
structure Opn where
  i : Int
  b : Int
  s : Int
  deriving DecidableEq
def Opn.cs (o : Opn) : List AV := [.int .i64 o.i, .int .i64 o.b, .int .i64 o.s]
def opsC (l : List Opn) : List AV := (l.map Opn.cs).flatten
theorem cs_op {l : List Opn} : ∀ x ∈ l.map Opn.cs, x.length = 3 := by simp only [List.mem_map]; rintro _ ⟨a, _, rfl⟩; rfl
@[simp] theorem opsC_len {l : List Opn} : (opsC l).length = 3 * l.length := by
  unfold opsC
  rw [flatten_len (sz := 3) _ cs_op, List.length_map, Nat.mul_comm]
theorem opsC_snoc (a : List Opn) (x : Opn) : opsC (a ++ [x]) = opsC a ++ x.cs := by simp [opsC]
abbrev SP (H : AH) (v : AV) (l : List Opn) : Prop := SL H 3 v (opsC l)
theorem SP.form {H : AH} {v : AV} {l : List Opn} (h : SP H v l) : ∃ a c s, v = .slice a l.length c s := by
  have := sle_form (es := l.map Opn.cs) h cs_op (by omega)
  simpa using this
theorem SP.all {H : AH} {v : AV} {l : List Opn} (h : SP H v l) (h0 : l ≠ []) : ∃ b o c r, v = .slice (some (b, o)) l.length c 3 ∧ rowOf H b = some r ∧
    ∀ i (hi : i < l.length), o + i * 3 + 3 ≤ r.length ∧ (r.drop (o + i * 3)).take 3 = l[i].cs ∧ ∀ j, j < 3 → r[o + i * 3 + j]? = l[i].cs[j]? := by
  obtain ⟨b, o, c, r, rfl, g1, g2⟩ := sle_all (es := l.map Opn.cs) h cs_op (by omega) (by simpa using h0)
  exact ⟨b, o, c, r, by simp, g1, fun i hi => g2 i _ (by simp [hi])⟩
/-- What an account's orders among the first n would buy, would sell. -/
def sums (l : List Od) (acc inst : Int) : Nat → Int × Int
  | 0 => (0, 0)
  | n + 1 => if (l.getD n dO).acc = acc ∧ (l.getD n dO).inst = inst then (if (l.getD n dO).side = 1 then ((sums l acc inst n).1 + (l.getD n dO).q, (sums l acc inst n).2) else ((sums l acc inst n).1, (sums l acc inst n).2 + (l.getD n dO).q)) else sums l acc inst n
def opensN (l : List Od) (acc : Int) : Nat → List Opn
  | 0 => []
  | n + 1 => if 0 < (sums l acc n l.length).1 + (sums l acc n l.length).2 then opensN l acc n ++ [⟨n, (sums l acc n l.length).1, (sums l acc n l.length).2⟩] else opensN l acc n
def opensB (l : List Od) (acc : Int) : List Opn := if rightL l = true then opensN l acc 6 else []
theorem sums_bound {l : List Od} {acc inst : Int} (h : ∀ x ∈ l, rightO x = true) : ∀ n, n ≤ l.length → 0 ≤ (sums l acc inst n).1 ∧ (sums l acc inst n).1 ≤ 1000000000 * n ∧ 0 ≤ (sums l acc inst n).2 ∧ (sums l acc inst n).2 ≤ 1000000000 * n
  | 0, _ => by simp [sums]
  | n + 1, hn => by
    have ih := sums_bound (acc := acc) (inst := inst) h n (by omega)
    have hq := right_q (h _ (List.getElem_mem (by omega : n < l.length)))
    rw [sums, getd (by omega : n < l.length)]
    split
    · split
      · simp only; omega
      · simp only; omega
    · omega
theorem opensN_len {l : List Od} {acc : Int} : ∀ n, (opensN l acc n).length ≤ n
  | 0 => by simp [opensN]
  | n + 1 => by
    have := opensN_len (l := l) (acc := acc) n
    rw [opensN]
    split <;> simp <;> omega
section
variable {k p n : Nat} {H : AH}
theorem opens_ok {v : AV} {l : List Od} {acc : Int} (h : SO H v l) (hl : l.length ≤ 1000000) (hk : l.length + 60 < k) : Hx (callA ap k (.func 19 [] []) [v, .int .i64 acc] 0 H) fun r => SP r.2 r.1 (opensB l acc) ∧ Chg [] H r.2 ∧ ∀ b ∈ blk r.1, H.length ≤ b := by
  obtain ⟨k, rfl⟩ : ∃ k', k = k' + 9 := ⟨k - 9, by omega⟩
  rw [hx_go fn19 rfl, b19]
  have hr := right_ok (k := k + 8) h hl (by omega)
  obtain ⟨a, c, s, rfl⟩ := h.form
  cases hrr : rightL l with
  | false =>
    have hA : opensB l acc = [] := by rw [opensB, hrr]; rfl
    rw [hA]
    rw [hrr] at hr
    simp [hr]
    exact ⟨.nil _ _, .refl⟩
  | true =>
    rw [hrr] at hr
    have hA : opensB l acc = opensN l acc 6 := by rw [opensB, hrr]; rfl
    rw [hA]
    have hrt := (rightL_mem hrr).1
    have h32 := (rightL_mem hrr).2
    simp [hr]
    refine hx_up (fun n st => ∃ H' w, st = ⟨sp 64 [(0, .slice a l.length c s), (1, .int .i64 acc), (5, w), (13, .int .i64 n)], H', []⟩ ∧ Mine H' 3 w (opsC (opensN l acc n)) ∧ (∀ b ∈ blk w, H.length ≤ b) ∧ Chg [] H H') 6 ?_ ?_ (by omega) ⟨H, .slice none 0 (some 0) 0, by simp [maskS], .nil _ _, by simp, .refl⟩
    · rintro n st hn ⟨H2, w, rfl, hw, hb, c2⟩
      have hn' : (n : Int) < 6 := by omega
      have wn : IntKind.i64.wrap ((n : Int) + 1) = (n : Int) + 1 := wrap_i64 (by omega) (by omega)
      obtain ⟨aw, cw, sw, ew⟩ := SP.form hw.sl
      obtain ⟨G, eG⟩ : ∃ G, G = H2 ++ [.cells [.int .i64 n, .int .i64 0, .int .i64 0] .rw] := ⟨_, rfl⟩
      have cG : Chg [] H2 G := by rw [eG]; exact .app _ _
      have gG : G[H2.length]? = some (.cells [.int .i64 n, .int .i64 0, .int .i64 0] .rw) := by rw [eG]; simp
      have hob := opensN_len (l := l) (acc := acc) n
      simp [hn', ew]
      rw [← eG]
      refine hx_up (fun j st => ∃ H', st = ⟨sp 64 [(0, .slice a l.length c s), (1, .int .i64 acc), (5, w), (6, .int .i64 n), (7, .ptr (some (H2.length, 0))), (13, .int .i64 n), (18, .slice a l.length c s), (19, .int .i64 l.length), (20, .int .i64 j)], H', []⟩ ∧ Chg [] H2 H' ∧ H'[H2.length]? = some (.cells [.int .i64 n, .int .i64 (sums l acc n j).1, .int .i64 (sums l acc n j).2] .rw)) l.length ?_ ?_ (by omega) ⟨G, by simp [maskS, ew], cG, gG⟩
      · rintro j st hj ⟨H3, rfl, c3, g3⟩
        have hj' : (j : Int) < l.length := by omega
        have wj : IntKind.i64.wrap ((j : Int) + 1) = (j : Int) + 1 := wrap_i64 (by omega) (by omega)
        obtain ⟨b, ob, c', r, e, g0, gg⟩ := SO.all (h.keep (c2.tr c3)) (by intro h; simp [h] at hj)
        obtain ⟨z1, z2, z3, z4⟩ := AV.slice.inj e
        subst z1 z3 z4
        obtain ⟨g1, g2, -⟩ := gg j hj
        obtain ⟨x, hxx⟩ : ∃ x, x = l[j] := ⟨_, rfl⟩
        rw [← hxx] at g2
        have hgd : l.getD j dO = x := by rw [getd hj, hxx]
        have hb1 := sums_bound (acc := acc) (inst := n) hrt j (by omega)
        have hb2 := sums_bound (acc := acc) (inst := n) hrt (j + 1) (by omega)
        obtain ⟨G4, e4⟩ : ∃ G4, G4 = H3 ++ [.cells x.cs .rw] := ⟨_, rfl⟩
        have c4 : Chg [] H3 G4 := by rw [e4]; exact .app _ _
        have r4 : rowOf G4 H3.length = some x.cs := by rw [e4]; simp [Od.cs]
        have g4 := c4.get g3 (by simp)
        have ra4 := rowOf_rw g4
        have rb4 : rowRw G4 0 H2.length = some _ := rowRw_rw g4
        have hsn : sums l acc n (j + 1) = if x.acc = acc ∧ x.inst = n then (if x.side = 1 then ((sums l acc n j).1 + x.q, (sums l acc n j).2) else ((sums l acc n j).1, (sums l acc n j).2 + x.q)) else sums l acc n j := by rw [sums, hgd]
        generalize sums l acc n (j + 1) = S' at *
        generalize hS : sums l acc n j = S at *
        simp only [Od.cs] at g2 e4 r4
        by_cases h1 : x.acc = acc
        · by_cases h2 : x.inst = n
          · by_cases h3 : x.side = 1
            · rw [if_pos ⟨h1, h2⟩, if_pos h3] at hsn
              subst hsn
              have ws : IntKind.i64.wrap (S.1 + x.q) = S.1 + x.q := wrap_i64 (by simp only at hb2; omega) (by simp only at hb2; omega)
              simp [hj', hj, g0, g1, g2]
              rw [← e4]
              simp [r4, h1, h2, h3, ra4, rb4, ws, maskS, wj]
              exact ⟨(c3.tr c4).set_new (by omega) _, by rw [List.getElem?_set_self (lt_of_get g4)]⟩
            · rw [if_pos ⟨h1, h2⟩, if_neg h3] at hsn
              subst hsn
              have ws : IntKind.i64.wrap (S.2 + x.q) = S.2 + x.q := wrap_i64 (by simp only at hb2; omega) (by simp only at hb2; omega)
              simp [hj', hj, g0, g1, g2]
              rw [← e4]
              simp [r4, h1, h2, h3, ra4, rb4, ws, maskS, wj]
              exact ⟨(c3.tr c4).set_new (by omega) _, by rw [List.getElem?_set_self (lt_of_get g4)]⟩
          · rw [if_neg (fun h => h2 h.2)] at hsn
            subst hsn
            simp [hj', hj, g0, g1, g2]
            rw [← e4]
            simp [r4, h1, h2, maskS, wj]
            exact ⟨c3.tr c4, g4⟩
        · rw [if_neg (fun h => h1 h.1)] at hsn
          subst hsn
          simp [hj', hj, g0, g1, g2]
          rw [← e4]
          simp [r4, h1, maskS, wj]
          exact ⟨c3.tr c4, g4⟩
      · rintro st ⟨H3, rfl, c3, g3⟩
        have hb1 := sums_bound (acc := acc) (inst := n) hrt l.length (by omega)
        have ra3 := rowOf_rw g3
        have hN : opensN l acc (n + 1) = if 0 < (sums l acc n l.length).1 + (sums l acc n l.length).2 then opensN l acc n ++ [⟨n, (sums l acc n l.length).1, (sums l acc n l.length).2⟩] else opensN l acc n := rfl
        generalize sums l acc n l.length = S at *
        have ws : IntKind.i64.wrap (S.1 + S.2) = S.1 + S.2 := wrap_i64 (by omega) (by omega)
        by_cases hp : 0 < S.1 + S.2
        · rw [if_pos hp] at hN
          obtain ⟨V, eV⟩ : ∃ V, V = H3 ++ [.cells [.int .i64 n, .int .i64 S.1, .int .i64 S.2] .pl] := ⟨_, rfl⟩
          have cV : Chg [] H3 V := by rw [eV]; exact .app _ _
          have slY : SL V 3 (.slice (some (H3.length, 0)) 1 (some 1) 3) [.int .i64 n, .int .i64 S.1, .int .i64 S.2] := .at_ _ 0 1 (some 1) [.int .i64 n, .int .i64 S.1, .int .i64 S.2] _ (by omega) (by rw [eV]; simp [rowOf]) (by simp) (by simp) (by simp)
          have happ := (hw.keep (c3.tr cV)).append slY (by_ := 24) (by omega) (by omega) (by simp) (by simp [room]; omega)
          rw [ew] at happ
          simp [ra3, ws, hp, ew]
          rw [← eV]
          refine Hx.mapp happ ?_
          rintro ⟨w2, H4⟩ ⟨t1, t2, t3⟩
          simp only at t1 t2 t3
          rw [show opsC (opensN l acc n) ++ [AV.int .i64 n, .int .i64 S.1, .int .i64 S.2] = opsC (opensN l acc (n + 1)) by rw [hN, opsC_snoc]; rfl] at t1
          obtain ⟨aw2, cw2, sw2, rfl⟩ := SP.form t1.sl
          simp [maskS, wn]
          exact ⟨H4, _, ⟨rfl, rfl⟩, t1, fun b hb' => by
            rcases t3 b hb' with h' | h'
            · exact hb b (by rw [ew]; exact h')
            · have := cV.1; have := c3.1; have := c2.1; omega, (c2.tr (c3.tr cV)).trans t2 (fun i hi => .inr (hb i (by rw [ew]; exact hi)))⟩
        · rw [if_neg hp] at hN
          simp [ra3, ws, hp, ew, maskS, wn]
          exact ⟨H3, w, ⟨ew.symm, rfl⟩, by rw [hN]; exact hw.keep c3, hb, c2.tr c3⟩
    · rintro st ⟨H2, w, rfl, hw, hb, c2⟩
      obtain ⟨aw, cw, sw, rfl⟩ := SP.form hw.sl
      simp
      exact ⟨hw.sl, c2, fun b hb' => hb b (by simpa using hb')⟩
end
end Go.Proofs.Ytpinfljbccjbkaa.T.Qu
end
section
/-! The document's Add, Cancel, Drop, Opens; rows of what is open compared. -/
set_option linter.unusedVariables false
set_option linter.unusedSimpArgs false
set_option maxHeartbeats 4000000
set_option maxRecDepth 100000
namespace Go.Proofs.Ytpinfljbccjbkaa.T.Qu
open Go Go.Ab
section
variable {k p n : Nat} {H : AH}
theorem ropens0_ok {v : AV} {l : List Od} {acc : Int} (h : SO H v l) (hrr : rightL l = true) (hk : l.length + 60 < k) : Hx (callA ap k (.func 41 [] []) [v, .int .i64 acc] 0 H) fun r => SP r.2 r.1 (opensN l acc 6) ∧ Chg [] H r.2 := by
  obtain ⟨k, rfl⟩ : ∃ k', k = k' + 9 := ⟨k - 9, by omega⟩
  rw [hx_go fn41 rfl, b41]
  obtain ⟨a, c, s, rfl⟩ := h.form
  have hrt := (rightL_mem hrr).1
  have h32 := (rightL_mem hrr).2
  simp
  refine hx_up (fun n st => ∃ H' w, st = ⟨sp 74 [(0, .slice a l.length c s), (1, .int .i64 acc), (5, w), (6, .int .i64 n)], H', []⟩ ∧ Mine H' 3 w (opsC (opensN l acc n)) ∧ (∀ b ∈ blk w, H.length ≤ b) ∧ Chg [] H H') 6 ?_ ?_ (by omega) ⟨H, .slice none 0 (some 0) 0, by simp [maskS], .nil _ _, by simp, .refl⟩
  · rintro n st hn ⟨H2, w, rfl, hw, hb, c2⟩
    have hn' : (n : Int) < 6 := by omega
    have wn : IntKind.i64.wrap ((n : Int) + 1) = (n : Int) + 1 := wrap_i64 (by omega) (by omega)
    obtain ⟨aw, cw, sw, ew⟩ := SP.form hw.sl
    obtain ⟨G, eG⟩ : ∃ G, G = H2 ++ [.cells [.int .i64 n, .int .i64 0, .int .i64 0] .rw] := ⟨_, rfl⟩
    have cG : Chg [] H2 G := by rw [eG]; exact .app _ _
    have gG : G[H2.length]? = some (.cells [.int .i64 n, .int .i64 0, .int .i64 0] .rw) := by rw [eG]; simp
    have hob := opensN_len (l := l) (acc := acc) n
    simp [hn', ew]
    rw [← eG]
    refine hx_up (fun j st => ∃ H', st = ⟨sp 74 [(0, .slice a l.length c s), (1, .int .i64 acc), (5, w), (6, .int .i64 n), (7, .ptr (some (H2.length, 0))), (8, .int .i64 j)], H', []⟩ ∧ Chg [] H2 H' ∧ H'[H2.length]? = some (.cells [.int .i64 n, .int .i64 (sums l acc n j).1, .int .i64 (sums l acc n j).2] .rw)) l.length ?_ ?_ (by omega) ⟨G, by simp [maskS, ew], cG, gG⟩
    · rintro j st hj ⟨H3, rfl, c3, g3⟩
      have hj' : (j : Int) < l.length := by omega
      have wj : IntKind.i64.wrap ((j : Int) + 1) = (j : Int) + 1 := wrap_i64 (by omega) (by omega)
      obtain ⟨b, ob, c', r, e, g0, gg⟩ := SO.all (h.keep (c2.tr c3)) (by intro h; simp [h] at hj)
      obtain ⟨z1, z2, z3, z4⟩ := AV.slice.inj e
      subst z1 z3 z4
      obtain ⟨-, -, gf⟩ := gg j hj
      obtain ⟨x, hxx⟩ : ∃ x, x = l[j] := ⟨_, rfl⟩
      rw [← hxx] at gf
      have f1 := gf 1 (by omega)
      have f2 := gf 2 (by omega)
      have f3 := gf 3 (by omega)
      have f4 := gf 4 (by omega)
      simp only [Od.cs, List.getElem?_cons_zero, List.getElem?_cons_succ] at f1 f2 f3 f4
      have hgd : l.getD j dO = x := by rw [getd hj, hxx]
      have hb1 := sums_bound (acc := acc) (inst := n) hrt j (by omega)
      have hb2 := sums_bound (acc := acc) (inst := n) hrt (j + 1) (by omega)
      have hsn : sums l acc n (j + 1) = if x.acc = acc ∧ x.inst = n then (if x.side = 1 then ((sums l acc n j).1 + x.q, (sums l acc n j).2) else ((sums l acc n j).1, (sums l acc n j).2 + x.q)) else sums l acc n j := by rw [sums, hgd]
      generalize sums l acc n (j + 1) = S' at *
      generalize hS : sums l acc n j = S at *
      by_cases h1 : x.acc = acc
      · by_cases h2 : x.inst = n
        · by_cases h3 : x.side = 1
          · rw [if_pos ⟨h1, h2⟩, if_pos h3] at hsn
            subst hsn
            have ws : IntKind.i64.wrap (S.1 + x.q) = S.1 + x.q := wrap_i64 (by simp only at hb2; omega) (by simp only at hb2; omega)
            simp [hj', hj, g0, f1, f2, f3, f4, h1, h2, h3]
            refine hx_drawn dc41_11 fun X cX _ _ => ?_
            have gX := cX.get g3 (by simp)
            have rX := cX.row g0 (by simp)
            have wX : rowRw X 0 H2.length = some _ := rowRw_rw gX
            simp [d41_11, hj', hj, rX, f4, rowOf_rw gX, wX, ws, maskS, wj]
            exact ⟨(c3.tr cX).set_new (by omega) _, by rw [List.getElem?_set_self (lt_of_get gX)]⟩
          · rw [if_pos ⟨h1, h2⟩, if_neg h3] at hsn
            subst hsn
            have ws : IntKind.i64.wrap (S.2 + x.q) = S.2 + x.q := wrap_i64 (by simp only at hb2; omega) (by simp only at hb2; omega)
            simp [hj', hj, g0, f1, f2, f3, f4, h1, h2, h3]
            refine hx_drawn dc41_12 fun X cX _ _ => ?_
            have gX := cX.get g3 (by simp)
            have rX := cX.row g0 (by simp)
            have wX : rowRw X 0 H2.length = some _ := rowRw_rw gX
            simp [d41_12, hj', hj, rX, f4, rowOf_rw gX, wX, ws, maskS, wj]
            exact ⟨(c3.tr cX).set_new (by omega) _, by rw [List.getElem?_set_self (lt_of_get gX)]⟩
        · rw [if_neg (fun h => h2 h.2)] at hsn
          subst hsn
          simp [hj', hj, g0, f1, f2, h1, h2, maskS, wj]
          exact ⟨c3, g3⟩
      · rw [if_neg (fun h => h1 h.1)] at hsn
        subst hsn
        simp [hj', hj, g0, f1, h1, maskS, wj]
        exact ⟨c3, g3⟩
    · rintro st ⟨H3, rfl, c3, g3⟩
      have hb1 := sums_bound (acc := acc) (inst := n) hrt l.length (by omega)
      have ra3 := rowOf_rw g3
      have hN : opensN l acc (n + 1) = if 0 < (sums l acc n l.length).1 + (sums l acc n l.length).2 then opensN l acc n ++ [⟨n, (sums l acc n l.length).1, (sums l acc n l.length).2⟩] else opensN l acc n := rfl
      generalize sums l acc n l.length = S at *
      have ws : IntKind.i64.wrap (S.1 + S.2) = S.1 + S.2 := wrap_i64 (by omega) (by omega)
      have hor : (0 < S.1 + S.2) = (0 < S.1 ∨ 0 < S.2) := propext (by omega)
      by_cases hp : 0 < S.1 + S.2
      · rw [if_pos hp] at hN
        obtain ⟨V, eV⟩ : ∃ V, V = H3 ++ [.cells [.int .i64 n, .int .i64 S.1, .int .i64 S.2] .pl] := ⟨_, rfl⟩
        have cV : Chg [] H3 V := by rw [eV]; exact .app _ _
        have slY : SL V 3 (.slice (some (H3.length, 0)) 1 (some 1) 3) [.int .i64 n, .int .i64 S.1, .int .i64 S.2] := .at_ _ 0 1 (some 1) [.int .i64 n, .int .i64 S.1, .int .i64 S.2] _ (by omega) (by rw [eV]; simp [rowOf]) (by simp) (by simp) (by simp)
        have happ := (hw.keep (c3.tr cV)).append slY (by_ := 24) (by omega) (by omega) (by simp) (by simp [room]; omega)
        rw [ew] at happ
        by_cases hp1 : 0 < S.1
        · simp [ra3, hp1, ew]
          rw [← eV]
          refine Hx.mapp happ ?_
          rintro ⟨w2, H4⟩ ⟨t1, t2, t3⟩
          simp only at t1 t2 t3
          rw [show opsC (opensN l acc n) ++ [AV.int .i64 n, .int .i64 S.1, .int .i64 S.2] = opsC (opensN l acc (n + 1)) by rw [hN, opsC_snoc]; rfl] at t1
          obtain ⟨aw2, cw2, sw2, rfl⟩ := SP.form t1.sl
          simp [maskS, wn]
          exact ⟨H4, _, ⟨rfl, rfl⟩, t1, fun b hb' => by
            rcases t3 b hb' with h' | h'
            · exact hb b (by rw [ew]; exact h')
            · have := cV.1; have := c3.1; have := c2.1; omega, (c2.tr (c3.tr cV)).trans t2 (fun i hi => .inr (hb i (by rw [ew]; exact hi)))⟩
        · have hp2 : 0 < S.2 := by omega
          simp [ra3, hp1, hp2, ew]
          rw [← eV]
          refine Hx.mapp happ ?_
          rintro ⟨w2, H4⟩ ⟨t1, t2, t3⟩
          simp only at t1 t2 t3
          rw [show opsC (opensN l acc n) ++ [AV.int .i64 n, .int .i64 S.1, .int .i64 S.2] = opsC (opensN l acc (n + 1)) by rw [hN, opsC_snoc]; rfl] at t1
          obtain ⟨aw2, cw2, sw2, rfl⟩ := SP.form t1.sl
          simp [maskS, wn]
          exact ⟨H4, _, ⟨rfl, rfl⟩, t1, fun b hb' => by
            rcases t3 b hb' with h' | h'
            · exact hb b (by rw [ew]; exact h')
            · have := cV.1; have := c3.1; have := c2.1; omega, (c2.tr (c3.tr cV)).trans t2 (fun i hi => .inr (hb i (by rw [ew]; exact hi)))⟩
      · rw [if_neg hp] at hN
        have hp1 : ¬ 0 < S.1 := by omega
        have hp2 : ¬ 0 < S.2 := by omega
        simp [ra3, hp1, hp2, ew, maskS, wn]
        exact ⟨H3, w, ⟨ew.symm, rfl⟩, by rw [hN]; exact hw.keep c3, hb, c2.tr c3⟩
  · rintro st ⟨H2, w, rfl, hw, hb, c2⟩
    obtain ⟨aw, cw, sw, rfl⟩ := SP.form hw.sl
    simp
    exact ⟨hw.sl, c2⟩
theorem ropens_ok {v : AV} {l : List Od} {acc : Int} (h : SO H v l) (hl : l.length ≤ 1000000) (hk : l.length + 80 < k) : Hx (callA ap k (.func 27 [] []) [v, .int .i64 acc] 0 H) fun r => SP r.2 r.1 (opensB l acc) ∧ Chg [] H r.2 := by
  obtain ⟨k, rfl⟩ : ∃ k', k = k' + 9 := ⟨k - 9, by omega⟩
  rw [hx_go fn27 rfl, b27]
  have hr := rorders_ok (k := k + 8) h hl (by omega)
  cases hrr : rightL l with
  | false =>
    obtain ⟨a, c, s, rfl⟩ := h.form
    have hA : opensB l acc = [] := by rw [opensB, hrr]; rfl
    rw [hA]
    rw [hrr] at hr
    simp [hr]
    exact ⟨.nil _ _, .refl⟩
  | true =>
    have h0 := ropens0_ok (k := k + 8) (acc := acc) h hrr (by omega)
    obtain ⟨a, c, s, rfl⟩ := h.form
    rw [hrr] at hr
    have hA : opensB l acc = opensN l acc 6 := by rw [opensB, hrr]; rfl
    rw [hA]
    simp [hr]
    refine Hx.mapp h0 ?_
    rintro ⟨w, H1⟩ ⟨t1, t2⟩
    simp only at t1 t2
    obtain ⟨aw, cw, sw, rfl⟩ := SP.form t1
    simp
    exact ⟨t1, t2⟩
theorem eqOp {p q : Opn} : eqF ap 0 [(0, 3), (1, 2), (2, 2)] [AV.int .i64 p.i, AV.int .i64 p.b, AV.int .i64 p.s] [AV.int .i64 q.i, AV.int .i64 q.b, AV.int .i64 q.s] = some (decide (p = q)) := by
  obtain ⟨_, _, _⟩ := p
  obtain ⟨_, _, _⟩ := q
  simp [eqF, eqC]
  rw [Bool.eq_iff_iff]
  simp
theorem opens_eq {v w : AV} {l m : List Opn} (ha : SP H v l) (hb : SP H w m) (hl : l.length ≤ 1000000) (hl2 : m.length ≤ 1000000) (hk : l.length + 10 < k) : callA ap k (.func 21 [] []) [v, w] 0 H = some (.bool (decide (l = m)), H) := by
  obtain ⟨k, rfl⟩ : ∃ k', k = k' + 1 := ⟨k - 1, by omega⟩
  refine Hx.eqn ?_
  rw [hx_gg fn21 rfl, b21]
  obtain ⟨x, c, s, rfl⟩ := SP.form ha
  obtain ⟨x', c', s', rfl⟩ := SP.form hb
  by_cases hn : l.length = m.length
  · simp [hn]
    refine hx_up (fun i s1 => ∃ H', s1 = ⟨sp 26 [(0, .slice x m.length c s), (1, .slice x' m.length c' s'), (5, .int .i64 i)], H', []⟩ ∧ Chg [] H H' ∧ ∀ j (h1 : j < l.length) (h2 : j < m.length), j < i → l[j] = m[j]) m.length ?_ ?_ (by omega) ⟨H, rfl, .refl, by simp⟩
    · rintro i _ hi ⟨H', rfl, c1, hq⟩
      have hw : IntKind.i64.wrap ((i : Int) + 1) = ((i + 1 : Nat) : Int) := by rw [wrap_i64 (by omega) (by omega)]; omega
      simp [hi]
      refine hx_drawn dc21_6 fun H1 c2 _ _ => ?_
      have hi' : i < l.length := hn ▸ hi
      have c3 := c1.tr c2
      obtain ⟨b0, o0, c0, r0, e0, g0, gg⟩ := SP.all (ha.keep c3) (by intro h; simp [h] at hi')
      obtain ⟨b1, o1, c1', r1, e1, g2, gg'⟩ := SP.all (hb.keep c3) (by intro h; simp [h] at hi)
      obtain ⟨ga, g1, -⟩ := gg i hi'
      obtain ⟨gb, g3, -⟩ := gg' i hi
      obtain ⟨z1, z2, z3, z4⟩ := AV.slice.inj e0
      subst z1 z3 z4
      obtain ⟨z1, z2, z3, z4⟩ := AV.slice.inj e1
      subst z1 z3 z4
      have hup : l[i] = m[i] → ∀ j (h1 : j < l.length) (h2 : j < m.length), j < i + 1 → l[j] = m[j] := fun he j h1 h2 hj => by
        rcases Nat.lt_succ_iff_lt_or_eq.1 hj with hj | rfl
        · exact hq j h1 h2 hj
        · exact he
      have hne : ¬ l[i] = m[i] → ¬ l = m := fun h e => h (by subst e; rfl)
      generalize l[i] = p at *
      generalize m[i] = q at *
      simp only [Opn.cs] at g1 g3
      by_cases he : p = q
      · subst he
        simp [d21_6, hi, g0, g1, g2, g3, ga, gb, hw, eqV, eqOp]
        exact ⟨H1, rfl, c3, hup rfl⟩
      · simp [d21_6, hi, g0, g1, g2, g3, ga, gb, hw, hne he, eqV, eqOp, he, gcF_flat, c3]
    · rintro _ ⟨H', rfl, c1, hq⟩
      have he : l = m := List.ext_getElem hn fun j h1 h2 => hq j h1 h2 h2
      simp [he, gcF_flat, c1]
  · have hne : ¬ l = m := fun e => hn (by rw [e])
    have hn' : ¬ (l.length : Int) = (m.length : Int) := by omega
    simp [hn', hne]
end
end Go.Proofs.Ytpinfljbccjbkaa.T.Qu
end
section
/-! Right orders, and the order in which they are met. -/
set_option linter.unusedVariables false
set_option linter.unusedSimpArgs false
set_option maxHeartbeats 4000000
set_option maxRecDepth 100000
namespace Go.Proofs.Ytpinfljbccjbkaa.T.Qu
open Go Go.Ab
/-- a is met ahead of b. -/
def Rs (a b : Od) : Prop := betterB a b = true ∨ (a.p = b.p ∧ a.id < b.id)
theorem Rs.no {a b : Od} (h : Rs a b) (h2 : Rs b a) (hs : a.side = b.side) : False := by
  unfold Rs betterB at h h2
  by_cases h1 : b.side = 1
  · simp [hs, h1] at h h2; omega
  · simp [hs, h1] at h h2; omega
/-- Two rows in which everything stands ahead of what is behind it, of the same, are one. -/
theorem sorted_same {R : Od → Od → Prop} : ∀ {l m : List Od}, (∀ a ∈ l, ∀ b ∈ l, R a b → R b a → False) → l.Pairwise R → m.Pairwise R → (∀ x, x ∈ l ↔ x ∈ m) → l = m
  | [], [], _, _, _, _ => rfl
  | [], b :: m, _, _, _, h => by have := (h b).2 (by simp); simp at this
  | a :: l, [], _, _, _, h => by have := (h a).1 (by simp); simp at this
  | a :: l, b :: m, ha, hl, hm, h => by
    obtain ⟨l1, l2⟩ := List.pairwise_cons.1 hl
    obtain ⟨m1, m2⟩ := List.pairwise_cons.1 hm
    have hab : a = b := by
      by_cases e : a = b
      · exact e
      · have h1 : a ∈ m := by have := (h a).1 (by simp); simpa [e] using this
        have h2 : b ∈ l := by have := (h b).2 (by simp); simpa [Ne.symm e] using this
        exact (ha a (by simp) b (by simp [h2]) (l1 b h2) (m1 a h1)).elim
    subst hab
    have hn : ∀ {k : List Od}, (∀ y ∈ k, R a y) → a ∉ k := fun hk hm => ha a (by simp) a (by simp) (hk a hm) (hk a hm)
    refine congrArg (a :: ·) (sorted_same (fun x hx y hy => ha x (by simp [hx]) y (by simp [hy])) l2 m2 fun x => ⟨fun hx => ?_, fun hx => ?_⟩)
    · have := (h x).1 (by simp [hx])
      rcases List.mem_cons.1 this with rfl | h3
      · exact (hn l1 hx).elim
      · exact h3
    · have := (h x).2 (by simp [hx])
      rcases List.mem_cons.1 this with rfl | h3
      · exact (hn m1 hx).elim
      · exact h3
theorem mem_insP {own : List Od} {o x : Od} : x ∈ insP own o ↔ x = o ∨ x ∈ own := by
  unfold insP
  conv => rhs; rw [← List.take_append_drop (atP own o own.length) own]
  simp only [List.mem_append, List.mem_cons]
  exact ⟨fun h => by rcases h with h | h | h <;> simp [h], fun h => by rcases h with h | h | h <;> simp [h]⟩
theorem mem_walkN {l : List Od} {inst side : Int} {x : Od} : ∀ n, n ≤ l.length → (x ∈ walkN l inst side n ↔ x ∈ l.take n ∧ x.inst = inst ∧ x.side = side)
  | 0, _ => by simp [walkN]
  | n + 1, hn => by
    have hnl : n < l.length := by omega
    have ih := mem_walkN (l := l) (inst := inst) (side := side) (x := x) n (by omega)
    rw [walkN, getd hnl, List.take_succ_eq_append_getElem hnl]
    simp only [List.mem_append, List.mem_singleton]
    by_cases hc : l[n].inst = inst ∧ l[n].side = side
    · rw [if_pos hc, mem_insP, ih]
      constructor
      · rintro (rfl | h)
        · exact ⟨.inr rfl, hc⟩
        · exact ⟨.inl h.1, h.2⟩
      · rintro ⟨h | rfl, h2⟩
        · exact .inr ⟨h, h2⟩
        · exact .inl rfl
    · rw [if_neg hc, ih]
      constructor
      · exact fun h => ⟨.inl h.1, h.2⟩
      · rintro ⟨h | rfl, h2⟩
        · exact ⟨h, h2⟩
        · exact (hc h2).elim
theorem right_ord {l : List Od} (h : rightL l = true) : ordB l l.length = true := by
  simp only [rightL, Bool.and_eq_true] at h
  exact h.1
theorem walkB_eq {l : List Od} {inst side : Int} (h : rightL l = true) : walkB l inst side = walkN l inst side l.length := by rw [walkB, if_pos h]
theorem mem_walkB {l : List Od} {inst side : Int} {x : Od} (h : rightL l = true) : x ∈ walkB l inst side ↔ x ∈ l ∧ x.inst = inst ∧ x.side = side := by
  rw [walkB_eq h, mem_walkN _ (Nat.le_refl _), List.take_length]
theorem walkN_rs {l : List Od} {inst side : Int} (ho : ordB l l.length = true) : ∀ n, n ≤ l.length → (walkN l inst side n).Pairwise Rs
  | 0, _ => .nil
  | n + 1, hn => by
    obtain ⟨-, ih2, ih3⟩ := walkN_eq (inst := inst) (side := side) ho n (by omega)
    have ih := walkN_rs (inst := inst) (side := side) ho n (by omega)
    have hnl : n < l.length := by omega
    rw [walkN, getd hnl]
    by_cases hc : l[n].inst = inst ∧ l[n].side = side
    · rw [if_pos hc]
      obtain ⟨own, eo⟩ : ∃ own, own = walkN l inst side n := ⟨_, rfl⟩
      rw [← eo] at ih ih2 ih3 ⊢
      have hid : ∀ a ∈ own, a.side = side ∧ a.id < l[n].id := fun a ha => ⟨(ih3 a ha).1, (ih3 a ha).2 n hnl (Nat.le_refl _)⟩
      obtain ⟨k1, k2, k3⟩ := rpos_at ih2 hid hc.2
      rw [insP, k1]
      have hsp : (own.take (rpos l[n] own) ++ own.drop (rpos l[n] own)).Pairwise Rs := by rw [List.take_append_drop]; exact ih
      obtain ⟨p1, p2, p3⟩ := List.pairwise_append.1 hsp
      refine List.pairwise_append.2 ⟨p1, List.pairwise_cons.2 ⟨fun b hb => .inl (k3 b hb), p2⟩, fun a ha b hb => ?_⟩
      rcases List.mem_cons.1 hb with rfl | hb
      · have h1 := k2 a ha
        have h2 := hid a (List.mem_of_mem_take ha)
        unfold betterB at h1
        unfold Rs betterB
        rw [hc.2] at h1
        rw [h2.1]
        by_cases hs1 : side = 1
        · simp [hs1] at h1 ⊢; omega
        · simp [hs1] at h1 ⊢; omega
      · exact p3 a ha b hb
    · rw [if_neg hc]
      exact ih
theorem walkB_rs {l : List Od} {inst side : Int} (h : rightL l = true) : (walkB l inst side).Pairwise Rs := by
  rw [walkB_eq h]; exact walkN_rs (right_ord h) _ (Nat.le_refl _)
/-- Different orders have different numbers. -/
def Rd (a b : Od) : Prop := a.id ≠ b.id
theorem right_up {l : List Od} (h : rightL l = true) : l.Pairwise fun a b => a.id < b.id :=
  List.pairwise_iff_getElem.2 fun i j hi hj hij => ordB_id l.length (Nat.le_refl _) (right_ord h) i j hi hj hij hj
theorem ordB_of {l : List Od} (hr : ∀ x ∈ l, rightO x = true) (hu : l.Pairwise fun a b => a.id < b.id) : ∀ n, n ≤ l.length → ordB l n = true
  | 0, _ => rfl
  | n + 1, hn => by
    have hnl : n < l.length := by omega
    rw [ordB, ordB_of hr hu n (by omega), getd hnl, hr _ (List.getElem_mem hnl)]
    by_cases h0 : n = 0
    · simp [h0]
    · rw [getd (by omega : n - 1 < l.length)]
      have := List.pairwise_iff_getElem.1 hu (n - 1) n (by omega) hnl (by omega)
      simp [this]
theorem rightL_of {l : List Od} (hr : ∀ x ∈ l, rightO x = true) (hu : l.Pairwise fun a b => a.id < b.id) (hl : l.length ≤ 32) : rightL l = true := by
  rw [rightL, ordB_of hr hu _ (Nat.le_refl _)]
  simp [hl]
theorem up_one {l : List Od} (hu : l.Pairwise fun a b => a.id < b.id) {x y : Od} (hx : x ∈ l) (hy : y ∈ l) (h : x.id = y.id) : x = y := by
  obtain ⟨i, hi, rfl⟩ := List.getElem_of_mem hx
  obtain ⟨j, hj, rfl⟩ := List.getElem_of_mem hy
  rcases Nat.lt_trichotomy i j with g | g | g
  · have := List.pairwise_iff_getElem.1 hu i j hi hj g; omega
  · subst g; rfl
  · have := List.pairwise_iff_getElem.1 hu j i hj hi g; omega
theorem walkB_rd {l : List Od} {inst side : Int} (h : rightL l = true) : (walkB l inst side).Pairwise Rd := by
  rw [walkB_eq h]
  exact (walkN_eq (right_ord h) _ (Nat.le_refl _)).2.1.imp fun h => h.2
theorem sum_app : ∀ (a b : List Int), (a ++ b).sum = a.sum + b.sum
  | [], b => by simp
  | x :: a, b => by simp only [List.cons_append, List.sum_cons, sum_app a b]; omega
theorem sum_up (l : List Int) {i : Nat} (hi : i < l.length) : (l.take (i + 1)).sum = (l.take i).sum + l[i] := by
  rw [List.take_succ_eq_append_getElem hi, sum_app]; simp
theorem sum_bound {l : List Int} (h : ∀ x ∈ l, 0 ≤ x ∧ x ≤ 1000000000) : ∀ i, 0 ≤ (l.take i).sum ∧ (l.take i).sum ≤ 1000000000 * i
  | 0 => by simp
  | i + 1 => by
    have ih := sum_bound h i
    by_cases hi : i < l.length
    · have := h _ (List.getElem_mem hi)
      rw [sum_up l hi]
      omega
    · rw [List.take_of_length_le (by omega)] at ih ⊢
      omega
end Go.Proofs.Ytpinfljbccjbkaa.T.Qu
end
section
/-! The document's Add, Cancel, Drop. -/
set_option linter.unusedVariables false
set_option linter.unusedSimpArgs false
set_option maxHeartbeats 4000000
set_option maxRecDepth 100000
namespace Go.Proofs.Ytpinfljbccjbkaa.T.Qu
open Go Go.Ab
theorem cancel_same {l : List Od} {acc id : Int} (h : rightL l = true) :
    (if (l.filter fun x => !(decide (x.id = id) && decide (x.acc = acc))).length = l.length then ([], (3 : Int)) else (l.filter fun x => !(decide (x.id = id) && decide (x.acc = acc)), 0)) = cancelB l acc id := by
  rw [cancelB, if_pos h]
  have hup := right_up h
  cases hf : l.findIdx? (fun x => decide (x.id = id) && decide (x.acc = acc)) with
  | none =>
    rw [List.findIdx?_eq_none_iff] at hf
    have : l.filter (fun x => !(decide (x.id = id) && decide (x.acc = acc))) = l := List.filter_eq_self.2 fun x hx => by rw [hf x hx]; rfl
    rw [this, if_pos rfl]
  | some i =>
    rw [List.findIdx?_eq_some_iff_getElem] at hf
    obtain ⟨hi, h1, -⟩ := hf
    simp only [Bool.and_eq_true, decide_eq_true_eq] at h1
    have hsp : l = l.take i ++ l[i] :: l.drop (i + 1) := by rw [← List.drop_eq_getElem_cons hi, List.take_append_drop]
    have hp := hup
    rw [hsp] at hp
    obtain ⟨p1, p2, p3⟩ := List.pairwise_append.1 hp
    obtain ⟨p4, p5⟩ := List.pairwise_cons.1 p2
    have e1 : (l.take i).filter (fun x => !(decide (x.id = id) && decide (x.acc = acc))) = l.take i := List.filter_eq_self.2 fun x hx => by
      have := p3 x hx l[i] (List.mem_cons_self ..)
      have : ¬ x.id = id := by omega
      simp [this]
    have e2 : (l.drop (i + 1)).filter (fun x => !(decide (x.id = id) && decide (x.acc = acc))) = l.drop (i + 1) := List.filter_eq_self.2 fun x hx => by
      have := p4 x hx
      have : ¬ x.id = id := by omega
      simp [this]
    have e3 : l.filter (fun x => !(decide (x.id = id) && decide (x.acc = acc))) = l.eraseIdx i := by
      conv => lhs; rw [hsp]
      rw [List.filter_append, List.filter_cons_of_neg (by simp [h1]), e1, e2, List.eraseIdx_eq_take_drop_succ]
    have e4 : (l.eraseIdx i).length = l.length - 1 := by rw [List.length_eraseIdx, if_pos hi]
    rw [e3, if_neg (by omega)]
def cnB (accs : List Int) (x : Int) (j : Nat) : Bool := (accs.take j).contains x
theorem cnB_zero {accs : List Int} {x : Int} : cnB accs x 0 = false := by simp [cnB]
theorem cnB_succ {accs : List Int} {x : Int} {j : Nat} (hj : j < accs.length) : cnB accs x (j + 1) = (cnB accs x j || decide (accs[j] = x)) := by
  unfold cnB
  rw [List.take_succ_eq_append_getElem hj, Bool.eq_iff_iff, Bool.or_eq_true, List.contains_iff_mem, List.contains_iff_mem, List.mem_append, List.mem_singleton, decide_eq_true_eq]
  exact ⟨fun h => h.imp id Eq.symm, fun h => h.imp id Eq.symm⟩
theorem cnB_all {accs : List Int} {x : Int} : cnB accs x accs.length = accs.contains x := by unfold cnB; rw [List.take_length]
section
variable {k p n : Nat} {H : AH}
theorem rcancel_ok {v : AV} {l : List Od} {acc id : Int} (h : SO H v l) (hl : l.length ≤ 1000000) (hk : l.length + 60 < k) : Hx (callA ap k (.func 25 [] []) [v, .int .i64 acc, .int .i64 id] 0 H) fun r => ∃ vr, r.1 = .tuple [vr, .int .i64 (cancelB l acc id).2] ∧ SO r.2 vr (cancelB l acc id).1 ∧ Chg [] H r.2 := by
  obtain ⟨k, rfl⟩ : ∃ k', k = k' + 9 := ⟨k - 9, by omega⟩
  rw [hx_go fn25 rfl, b25]
  have hr := rorders_ok (k := k + 8) h hl (by omega)
  obtain ⟨a, c, s, rfl⟩ := h.form
  cases hrr : rightL l with
  | false =>
    have hA : cancelB l acc id = ([], 1) := by rw [cancelB, hrr]; rfl
    rw [hA]
    rw [hrr] at hr
    simp [hr]
    exact ⟨.nil _ _, .refl⟩
  | true =>
    rw [hrr] at hr
    rw [← cancel_same hrr]
    obtain ⟨P, hP⟩ : ∃ P : Od → Bool, P = fun x => !(decide (x.id = id) && decide (x.acc = acc)) := ⟨_, rfl⟩
    rw [← hP]
    simp [hr]
    refine hx_up (fun i st => ∃ H' w, st = ⟨sp 48 [(0, .slice a l.length c s), (1, .int .i64 acc), (2, .int .i64 id), (8, w), (9, .int .i64 i)], H', []⟩ ∧ Mine H' 6 w (odsC ((l.take i).filter P)) ∧ (∀ b ∈ blk w, H.length ≤ b) ∧ Chg [] H H') l.length ?_ ?_ (by omega) ⟨H, .slice none 0 (some 0) 0, by simp [maskS], .nil _ _, by simp, .refl⟩
    · rintro i st hi ⟨H2, w, rfl, hw, hb, c2⟩
      have hi' : (i : Int) < l.length := by omega
      have wi : IntKind.i64.wrap ((i : Int) + 1) = (i : Int) + 1 := wrap_i64 (by omega) (by omega)
      obtain ⟨b, ob, c', r, e, g0, gg⟩ := SO.all (h.keep c2) (by intro h; simp [h] at hi)
      obtain ⟨z1, z2, z3, z4⟩ := AV.slice.inj e
      subst z1 z3 z4
      obtain ⟨g1, g2, gf⟩ := gg i hi
      have hfil := filter_take (P := P) hi
      obtain ⟨x, hxx⟩ : ∃ x, x = l[i] := ⟨_, rfl⟩
      rw [← hxx] at gf g2 hfil
      have f0 := gf 0 (by omega)
      have f1 := gf 1 (by omega)
      obtain ⟨aw, cw, sw, ew⟩ := SO.form hw.sl
      obtain ⟨V, eV⟩ : ∃ V, V = H2 ++ [.cells x.cs .pl] := ⟨_, rfl⟩
      have cV : Chg [] H2 V := by rw [eV]; exact .app _ _
      have slY : SL V 6 (.slice (some (H2.length, 0)) 1 (some 1) 6) x.cs := .at_ _ 0 1 (some 1) x.cs _ (by omega) (by rw [eV]; simp [rowOf]) (by simp [Od.cs]) (by simp [Od.cs]) (by simp)
      have hfl : ((l.take i).filter P).length ≤ l.length := Nat.le_trans (List.length_filter_le _ _) (by simp; omega)
      have happ := (hw.keep cV).append slY (by_ := 48) (by omega) (by omega) (by simp [Od.cs]) (by simp [room, Od.cs]; omega)
      rw [← odsC_snoc, ew] at happ
      simp only [Od.cs, Nat.add_zero, List.getElem?_cons_zero, List.getElem?_cons_succ] at f0 f1 g2 eV
      by_cases hq : x.id = id ∧ x.acc = acc
      · have hp : P x = false := by rw [hP]; simp [hq]
        rw [hp] at hfil
        simp only [Bool.false_eq_true, if_false, List.append_nil] at hfil
        simp [hi', hi, g0, f0, f1, hq.1, hq.2, maskS, wi]
        exact ⟨H2, w, ⟨rfl, rfl⟩, by rw [hfil]; exact hw, hb, c2⟩
      · have hp : P x = true := by
          rw [hP]
          by_cases h1 : x.id = id
          · have : ¬ x.acc = acc := fun h => hq ⟨h1, h⟩
            simp [h1, this]
          · simp [h1]
        rw [hp] at hfil
        simp only [if_true] at hfil
        have fin : Hx (aappend 0 V 6 48 w (.slice (some (H2.length, 0)) 1 (some 1) 6)) fun r => Mine r.2 6 r.1 (odsC ((l.take (i + 1)).filter P)) ∧ (∀ b ∈ blk r.1, H.length ≤ b) ∧ Chg [] H r.2 := by
          rw [ew]
          refine happ.mono fun r ⟨t1, t2, t3⟩ => ⟨by rw [hfil]; exact t1, fun b hb' => ?_, (c2.tr cV).trans t2 (fun i hi => .inr (hb i (by rw [ew]; exact hi)))⟩
          rcases t3 b hb' with h' | h'
          · exact hb b (by rw [ew]; exact h')
          · have := cV.1; have := c2.1; omega
        rw [ew] at fin
        by_cases h1 : x.id = id
        · have h2 : ¬ x.acc = acc := fun h => hq ⟨h1, h⟩
          simp [hi', hi, g0, g1, g2, f0, f1, h1, h2, ew]
          rw [h1] at eV
          rw [← eV]
          refine Hx.mapp fin ?_
          rintro ⟨w2, H4⟩ ⟨t1, t2, t3⟩
          simp only at t1 t2 t3
          obtain ⟨aw2, cw2, sw2, rfl⟩ := SO.form t1.sl
          simp [maskS, wi]
          exact ⟨H4, _, ⟨rfl, rfl⟩, t1, t2, t3⟩
        · simp [hi', hi, g0, g1, g2, f0, f1, h1, ew]
          rw [← eV]
          refine Hx.mapp fin ?_
          rintro ⟨w2, H4⟩ ⟨t1, t2, t3⟩
          simp only at t1 t2 t3
          obtain ⟨aw2, cw2, sw2, rfl⟩ := SO.form t1.sl
          simp [maskS, wi]
          exact ⟨H4, _, ⟨rfl, rfl⟩, t1, t2, t3⟩
    · rintro st ⟨H2, w, rfl, hw, hb, c2⟩
      rw [List.take_length] at hw
      obtain ⟨F, eF⟩ : ∃ F, F = l.filter P := ⟨_, rfl⟩
      rw [← eF] at hw ⊢
      obtain ⟨aw, cw, sw, rfl⟩ := SO.form hw.sl
      by_cases hF : F.length = l.length
      · have hF' : (F.length : Int) = l.length := by omega
        simp [hF, hF']
        exact ⟨.nil _ _, c2⟩
      · have hF' : ¬ (F.length : Int) = l.length := by omega
        simp [hF, hF']
        exact ⟨hw.sl, c2⟩
theorem rdrop_ok {v va : AV} {l : List Od} {accs : List Int} (h : SO H v l) (ha : SL H 1 va (ints accs)) (hl : l.length ≤ 1000000) (hl2 : accs.length ≤ 1000000) (hk : l.length + accs.length + 60 < k) : Hx (callA ap k (.func 26 [] []) [v, va] 0 H) fun r => SO r.2 r.1 (dropB l accs) ∧ Chg [] H r.2 := by
  obtain ⟨k, rfl⟩ : ∃ k', k = k' + 9 := ⟨k - 9, by omega⟩
  rw [hx_go fn26 rfl, b26]
  have hr := rorders_ok (k := k + 8) h hl (by omega)
  obtain ⟨a, c, s, rfl⟩ := h.form
  obtain ⟨a', c', s', rfl⟩ := ha.form1
  rw [ints_len] at ha ⊢
  cases hrr : rightL l with
  | false =>
    have hA : dropB l accs = [] := by rw [dropB, hrr]; rfl
    rw [hA]
    rw [hrr] at hr
    simp [hr]
    exact ⟨.nil _ _, .refl⟩
  | true =>
    rw [hrr] at hr
    obtain ⟨P, hP⟩ : ∃ P : Od → Bool, P = fun x => !accs.contains x.acc := ⟨_, rfl⟩
    have hA : dropB l accs = l.filter P := by rw [dropB, hrr, hP]; rfl
    rw [hA]
    simp [hr]
    refine hx_up (fun i st => ∃ H' w, st = ⟨sp 48 [(0, .slice a l.length c s), (1, .slice a' accs.length c' s'), (5, w), (6, .int .i64 i)], H', []⟩ ∧ Mine H' 6 w (odsC ((l.take i).filter P)) ∧ (∀ b ∈ blk w, H.length ≤ b) ∧ Chg [] H H') l.length ?_ ?_ (by omega) ⟨H, .slice none 0 (some 0) 0, by simp [maskS], .nil _ _, by simp, .refl⟩
    · rintro i st hi ⟨H2, w, rfl, hw, hb, c2⟩
      have hi' : (i : Int) < l.length := by omega
      have wi : IntKind.i64.wrap ((i : Int) + 1) = (i : Int) + 1 := wrap_i64 (by omega) (by omega)
      obtain ⟨aw, cw, sw, ew⟩ := SO.form hw.sl
      obtain ⟨x, hxx⟩ : ∃ x, x = l[i] := ⟨_, rfl⟩
      have hfil := filter_take (P := P) hi
      rw [← hxx] at hfil
      simp [hi', hi, ew]
      refine hx_up (fun j st => ∃ H', st = ⟨sp 48 [(0, .slice a l.length c s), (1, .slice a' accs.length c' s'), (5, w), (6, .int .i64 i), (7, .bool (cnB accs x.acc j)), (8, .int .i64 j)], H', []⟩ ∧ Chg [] H2 H') accs.length ?_ ?_ (by omega) ⟨H2, by simp [maskS, ew, cnB_zero], .refl⟩
      · rintro j st hj ⟨H3, rfl, c3⟩
        have hj' : (j : Int) < accs.length := by omega
        have wj : IntKind.i64.wrap ((j : Int) + 1) = (j : Int) + 1 := wrap_i64 (by omega) (by omega)
        simp [hj', hj]
        refine hx_drawn dc26_11 fun X cX _ _ => ?_
        have c5 := c3.tr cX
        obtain ⟨b, ob, c', r, e, g0, gg⟩ := SO.all (h.keep (c2.tr c5)) (by intro h; simp [h] at hi)
        obtain ⟨z1, z2, z3, z4⟩ := AV.slice.inj e
        subst z1 z3 z4
        have f1 := (gg i hi).2.2 1 (by omega)
        rw [← hxx] at f1
        simp only [Od.cs, List.getElem?_cons_zero, List.getElem?_cons_succ] at f1
        obtain ⟨b1, o1, c1', r1, e1, k0, k1⟩ := (ha.keep (c2.tr c5)).get1 (i := j) (by simpa using hj)
        obtain ⟨z1, z2, z3, z4⟩ := AV.slice.inj e1
        subst z1 z3 z4
        have hlx : (ints accs)[j]? = some (.int .i64 accs[j]) := by simp [ints, hj]
        rw [hlx] at k1
        have htk := cnB_succ (x := x.acc) hj
        generalize accs[j] = y at *
        cases hc : cnB accs x.acc j with
        | true =>
          rw [hc] at htk
          simp only [Bool.true_or] at htk
          simp [d26_11, maskS, wj]
          exact ⟨X, by rw [htk]; simp, c5⟩
        | false =>
          rw [hc] at htk
          simp only [Bool.false_or] at htk
          simp [d26_11, hj', hj, hi', hi, k0, k1, g0, f1, maskS, wj]
          exact ⟨X, by rw [htk]; simp, c5⟩
      · rintro st ⟨H3, rfl, c3⟩
        rw [cnB_all]
        have hPx : P x = !accs.contains x.acc := by rw [hP]
        cases hc : accs.contains x.acc with
        | true =>
          rw [hc] at hPx
          rw [hPx] at hfil
          simp only [Bool.not_true, Bool.false_eq_true, if_false, List.append_nil] at hfil
          simp [maskS, wi]
          exact ⟨H3, w, ⟨rfl, rfl⟩, by rw [hfil]; exact hw.keep c3, hb, c2.tr c3⟩
        | false =>
          rw [hc] at hPx
          rw [hPx] at hfil
          simp only [Bool.not_false, if_true] at hfil
          obtain ⟨b, ob, c', r, e, g0, gg⟩ := SO.all (h.keep (c2.tr c3)) (by intro h; simp [h] at hi)
          obtain ⟨z1, z2, z3, z4⟩ := AV.slice.inj e
          subst z1 z3 z4
          obtain ⟨g1, g2, gf⟩ := gg i hi
          rw [← hxx] at g2
          obtain ⟨V, eV⟩ : ∃ V, V = H3 ++ [.cells x.cs .pl] := ⟨_, rfl⟩
          have cV : Chg [] H3 V := by rw [eV]; exact .app _ _
          have slY : SL V 6 (.slice (some (H3.length, 0)) 1 (some 1) 6) x.cs := .at_ _ 0 1 (some 1) x.cs _ (by omega) (by rw [eV]; simp [rowOf]) (by simp [Od.cs]) (by simp [Od.cs]) (by simp)
          have hfl : ((l.take i).filter P).length ≤ l.length := Nat.le_trans (List.length_filter_le _ _) (by simp; omega)
          have happ := (hw.keep (c3.tr cV)).append slY (by_ := 48) (by omega) (by omega) (by simp [Od.cs]) (by simp [room, Od.cs]; omega)
          rw [← odsC_snoc, ← hfil, ew] at happ
          simp only [Od.cs] at g2 eV
          simp [hi', hi, g0, g1, g2, ew]
          rw [← eV]
          refine Hx.mapp happ ?_
          rintro ⟨w2, H4⟩ ⟨t1, t2, t3⟩
          simp only at t1 t2 t3
          obtain ⟨aw2, cw2, sw2, rfl⟩ := SO.form t1.sl
          simp [maskS, wi]
          exact ⟨H4, _, ⟨rfl, rfl⟩, t1, fun b hb' => by
            rcases t3 b hb' with h' | h'
            · exact hb b (by rw [ew]; exact h')
            · have := cV.1; have := c3.1; have := c2.1; omega, (c2.tr (c3.tr cV)).trans t2 (fun i hi => .inr (hb i (by rw [ew]; exact hi)))⟩
    · rintro st ⟨H2, w, rfl, hw, hb, c2⟩
      rw [List.take_length] at hw
      obtain ⟨aw, cw, sw, rfl⟩ := SO.form hw.sl
      simp
      exact ⟨hw.sl, c2⟩
end
end Go.Proofs.Ytpinfljbccjbkaa.T.Qu
end
section
/-! What is walked, in a row; the document's Add. -/
set_option linter.unusedVariables false
set_option linter.unusedSimpArgs false
set_option maxHeartbeats 4000000
set_option maxRecDepth 100000
namespace Go.Proofs.Ytpinfljbccjbkaa.T.Qu
open Go Go.Ab
section
variable {k p n : Nat} {H : AH}
theorem walkB_len {l : List Od} {inst side : Int} : (walkB l inst side).length ≤ 32 := by
  unfold walkB
  split
  · rename_i h
    exact Nat.le_trans (walkN_len _ _ _ _) (rightL_mem h).2
  · simp
structure WI (H : AH) (own : List Od) (p c : Nat) (w : AV) (B j : Nat) (v : AV) (X : AH) : Prop where
  hp : X[p]? = some (.cells [v] .rw)
  hc : X[c]? = some (.cells [w] .rw)
  ho : OwnS X w own
  hv : Mine X 6 v (odsC (own.take j))
  bv : ∀ b ∈ blk v, B ≤ b
  ch : Chg [] H X
theorem WI.keep {own : List Od} {p c : Nat} {w : AV} {B j : Nat} {v : AV} {X Y : AH} (h : WI H own p c w B j v X) (cc : Chg [] X Y) : WI H own p c w B j v Y :=
  ⟨cc.get h.hp (by simp), cc.get h.hc (by simp), h.ho.chg cc (by simp), h.hv.keep cc, h.bv, h.ch.tr cc⟩
theorem WI.ls {own : List Od} {p c : Nat} {w : AV} {B j d : Nat} {v : AV} {X Y : AH} (h : WI H own p c w B j v X) (hd : d < B) (hpd : p ≠ d) (hcd : c ≠ d) (hw : ∀ i ∈ blk w, i ≠ d) (hH : H.length ≤ d) (cc : LS d X Y) : WI H own p c w B j v Y :=
  ⟨cc.1.get h.hp (by simp [hpd]), cc.1.get h.hc (by simp [hcd]), h.ho.chg cc.1 (fun i hi => by simp [hw i hi]), h.hv.chg cc.1 (fun i hi => by have := h.bv i hi; simp; omega), h.bv, h.ch.trans cc.1 (by simp; omega)⟩
theorem walked_ok {v : AV} {l : List Od} {inst side : Int} (h : SO H v l) (hl : l.length ≤ 1000000) (hk : l.length + 80 < k) : Hx (callA ap k (.func 13 [] []) [v, .int .i64 inst, .int .i64 side] 0 H) fun r => SO r.2 r.1 (walkB l inst side) ∧ Chg [] H r.2 := by
  obtain ⟨k, rfl⟩ : ∃ k', k = k' + 9 := ⟨k - 9, by omega⟩
  rw [hx_go fn13 rfl, b13]
  obtain ⟨a, c, s, rfl⟩ := h.form
  obtain ⟨G, eG⟩ : ∃ G, G = H ++ [.cells [.slice none 0 (some 0) 0] .rw] := ⟨_, rfl⟩
  have cG : Chg [] H G := by rw [eG]; exact .app _ _
  have gG : G[H.length]? = some (.cells [.slice none 0 (some 0) 0] .rw) := by rw [eG]; simp
  have lG : G.length = H.length + 1 := by rw [eG]; simp
  simp
  rw [← eG]
  refine Hx.mapp (walk_ok (k := k + 8) (h.keep cG) hl (by omega)) ?_
  rintro ⟨g, H4⟩ ⟨cw, w, eg, c4, hcw, gw, how, hbw⟩
  simp only at eg c4 hcw gw how hbw
  subst eg
  obtain ⟨own, eo⟩ : ∃ own, own = walkB l inst side := ⟨_, rfl⟩
  rw [← eo] at how ⊢
  have hown : own.length ≤ 32 := by rw [eo]; exact walkB_len
  have hBw : ∀ i ∈ blk w, i < H4.length := how.so.lt
  have lcw := lt_of_get gw
  have lH4 : H.length < H4.length := by have := c4.1; omega
  have h0 : WI H own H.length cw w (H4.length + 2) 0 (.slice none 0 (some 0) 0) H4 := ⟨c4.get gG (by simp), gw, how, .nil _ _, by simp, cG.tr c4⟩
  have hls : ∀ {j : Nat} {v : AV} {X Y : AH}, WI H own H.length cw w (H4.length + 2) j v X → LS (H4.length + 1) X Y → WI H own H.length cw w (H4.length + 2) j v Y := fun hm cc => hm.ls (by omega) (by omega) (by omega) (fun i hi => by have := hBw i hi; omega) (by omega) cc
  simp
  refine hx_rangeG (fun j _ a => a = [.agg (own.getD j dO).cs]) (fun X => X[cw]? = some (.cells [w] .rw) ∧ OwnS X w own)
    (fun j X => ∃ v, WI H own H.length cw w (H4.length + 2) j v X) (fun x X => False) (n := own.length) rfl (walk1_goes (by omega) (by omega))
    ?_ (fun _ _ _ h _ => h.elim) (fun j X ⟨_, hm⟩ => ⟨hm.hc, hm.ho⟩) (fun j X a e => by rw [e]; rfl) ⟨_, h0⟩ ?_ ?_ ?_
  · rintro j X Y ⟨v, hm⟩ (c | c)
    · exact ⟨v, hm.keep c⟩
    · exact ⟨v, hls hm c⟩
  · rintro j hj X a hI rfl hl1 hd1
    obtain ⟨x, hx⟩ : ∃ x, x = own.getD j dO := ⟨_, rfl⟩
    have htk : own.take (j + 1) = own.take j ++ [x] := by rw [List.take_succ_eq_append_getElem hj, hx, getd hj]
    rw [← hx]
    unfold as13_0
    simp [setL, Od.cs]
    refine ⟨.app _ _, fun Y hls' hlY hdY v hm ms => ?_⟩
    have hXB : H4.length < X.length := lt_of_get hd1
    have r11 : rowOf Y X.length = some _ := hls'.row (H := X ++ [.cells x.cs .rw]) (by simp [Od.cs]; rfl)
    have r7 := rowOf_rw hm.hp
    unfold bd13_0
    obtain ⟨av, cv, sv, ev⟩ := SO.form hm.hv.sl
    obtain ⟨V, eV⟩ : ∃ V, V = Y ++ [.cells x.cs .pl] := ⟨_, rfl⟩
    have cV : Chg [] Y V := by rw [eV]; exact .app _ _
    have slY : SL V 6 (.slice (some (Y.length, 0)) 1 (some 1) 6) x.cs := .at_ _ 0 1 (some 1) x.cs _ (by omega) (by rw [eV]; simp [rowOf]) (by simp [Od.cs]) (by simp [Od.cs]) (by simp)
    have htl0 : (own.take j).length = j := by rw [List.length_take]; omega
    have htl : (own.take j).length ≤ 32 := by omega
    have htl1 : (own.take (j + 1)).length = j + 1 := by rw [List.length_take]; omega
    rw [htl0] at ev
    have happ := (hm.hv.keep cV).append slY (by_ := 48) (by omega) (by omega) (by simp [Od.cs]) (by simp [room, Od.cs]; omega)
    rw [← odsC_snoc, ← htk] at happ
    rw [ev] at r7 happ
    simp only [Od.cs] at eV
    simp [r7, r11]
    rw [← eV]
    have lY : H4.length + 1 < Y.length := by
      have : isLoop Y[H4.length + 1]? := hlY
      by_cases hlt : H4.length + 1 < Y.length
      · exact hlt
      · rw [List.getElem?_eq_none (by omega)] at this
        exact this.elim
    refine Hx.mapp happ ?_
    rintro ⟨v', W⟩ ⟨t1, t2, t3⟩
    simp only at t1 t2 t3
    rw [← ev] at t2 t3
    have hbv := hm.bv
    have n1 : ∀ i, i < H4.length + 2 → i ∉ blk v := fun i hi h => by have := hbv i h; omega
    have c5 : ∀ {i : Nat} {A : AB}, i < H4.length + 2 → Y[i]? = some A → W[i]? = some A := fun hi hA => t2.get (cV.get hA (by simp)) (n1 _ hi)
    have gp := c5 (by omega) hm.hp
    have wp : rowRw W 0 H.length = some _ := rowRw_rw gp
    obtain ⟨av', cv', sv', ev'⟩ := SO.form t1.sl
    rw [htl1] at ev'
    rw [ev] at wp
    rw [ev'] at t1 t3 ⊢
    simp [wp]
    have cS : ∀ A, Chg [H.length] W (W.set H.length A) := fun A => .set _ _ _
    have lpW := lt_of_get gp
    have bv' : ∀ b ∈ blk (AV.slice av' (j + 1) cv' sv'), H4.length + 2 ≤ b := fun b hb => by
      rcases t3 b hb with h' | h'
      · exact hbv b h'
      · have := cV.1; omega
    obtain ⟨A, eA⟩ : ∃ A, Y[H4.length + 1]? = some A := by
      cases hY : Y[H4.length + 1]? with
      | none => rw [List.getElem?_eq_none_iff] at hY; omega
      | some A => exact ⟨A, rfl⟩
    refine ⟨?_, ?_, _, List.getElem?_set_self lpW, ?_, ?_, t1.chg (cS _) (fun i hi => by have := bv' i hi; simp; omega), bv', ?_⟩
    · rw [List.getElem?_set_ne (by omega), c5 (by omega) eA, eA]
    · rw [List.getElem?_set_ne (by omega), c5 (by omega) hdY, hdY]
    · rw [List.getElem?_set_ne (by omega)]; exact c5 (by omega) hm.hc
    · exact ((hm.ho.chg cV (by simp)).chg t2 (fun i hi => n1 i (by have := hBw i hi; omega))).chg (cS _) (fun i hi => by have := hbw i hi; simp; omega)
    · exact (((hm.ch.tr cV).trans t2 (fun i hi => .inr (by have := hbv i hi; omega)))).set_new (by omega) _
  · rintro X ⟨v, hm⟩ hd
    have r7 := rowOf_rw hm.hp
    have hv := hm.hv
    rw [List.take_length] at hv
    obtain ⟨av, cv, sv, rfl⟩ := SO.form hv.sl
    simp [r7, hd]
    exact ⟨(hv.chg (.set _ _ _) (fun i hi => by have := hm.bv i hi; simp; omega)).sl, hm.ch.set_new (by omega) _⟩
  · rintro x X hx hE hd
    exact hE.elim
end
end Go.Proofs.Ytpinfljbccjbkaa.T.Qu
end
section
/-! Orders that are drawn. -/
set_option linter.unusedVariables false
set_option linter.unusedSimpArgs false
set_option maxHeartbeats 4000000
set_option maxRecDepth 100000
namespace Go.Proofs.Ytpinfljbccjbkaa.T.Qu
open Go Go.Ab
/-- What drawn orders are like. -/
structure Drawn (l : List Od) (id : Int) : Prop where
  ok : ∀ x ∈ l, 1 ≤ x.id ∧ x.id ≤ id ∧ 1 ≤ x.acc ∧ x.acc ≤ 5 ∧ 0 ≤ x.inst ∧ x.inst ≤ 2 ∧ (x.side = 1 ∨ x.side = 2) ∧ 1 ≤ x.q ∧ x.q ≤ 40 ∧ 95 ≤ x.p ∧ x.p ≤ 104
  up : l.Pairwise fun a b => a.id < b.id
  top : 0 ≤ id ∧ id ≤ 3 * l.length
theorem Drawn.snoc {l : List Od} {id d : Int} (h : Drawn l id) {x : Od} (hd : 1 ≤ d ∧ d ≤ 3) (hx : x.id = id + d) (ho : 1 ≤ x.acc ∧ x.acc ≤ 5 ∧ 0 ≤ x.inst ∧ x.inst ≤ 2 ∧ (x.side = 1 ∨ x.side = 2) ∧ 1 ≤ x.q ∧ x.q ≤ 40 ∧ 95 ≤ x.p ∧ x.p ≤ 104) : Drawn (l ++ [x]) (id + d) := by
  have ht := h.top
  refine ⟨fun y hy => ?_, List.pairwise_append.2 ⟨h.up, by simp, fun a ha b hb => ?_⟩, by simp; omega⟩
  · rcases List.mem_append.1 hy with hy | hy
    · have := h.ok y hy; omega
    · simp at hy; subst hy; omega
  · simp at hb; subst hb
    have := h.ok a ha; omega
theorem Drawn.right {l : List Od} {id : Int} (h : Drawn l id) (hl : l.length ≤ 32) : rightL l = true := by
  refine rightL_of (fun x hx => ?_) h.up hl
  have h1 := h.ok x hx
  have h2 := h.top
  unfold rightO
  simp only [Bool.and_eq_true, Bool.or_eq_true, decide_eq_true_eq]
  omega
section
variable {k p n : Nat} {H : AH}
theorem norders_ok {most : Nat} (h : Dk H p n) (hn : n + 10 * most ≤ 100000) (hm : most ≤ 100) (hk : most + 50 < k) : Hx (callA ap k (.func 9 [] []) [.ptr (some (p, 0)), .int .i64 most] 0 H) fun r =>
    ∃ l id, Mine r.2 6 r.1 (odsC l) ∧ Drawn l id ∧ l.length ≤ most ∧ Dk r.2 p (n + 1 + 6 * l.length) ∧ Chg [p] H r.2 ∧ ∀ b ∈ blk r.1, H.length ≤ b := by
  obtain ⟨k, rfl⟩ : ∃ k', k = k' + 9 := ⟨k - 9, by omega⟩
  rw [hx_go fn9 rfl, b9]
  have w0 : IntKind.i64.wrap ((most : Int) + 1) = (most : Int) + 1 := wrap_i64 (by omega) (by omega)
  have hpl := h.lt
  simp [w0]
  refine Hx.mapp (n_ok (k := k + 6) h (by omega) (m := (most : Int) + 1) (by omega) (by omega)) ?_
  rintro ⟨r, H1⟩ ⟨x, e, hx, d1, c1⟩
  simp only at e d1 c1
  subst e
  obtain ⟨j0, rfl⟩ : ∃ j0 : Nat, x = j0 := ⟨x.toNat, by omega⟩
  simp
  refine hx_down (fun j st => ∃ H' v l id, st = ⟨sp 41 [(0, .ptr (some (p, 0))), (5, v), (6, .int .i64 id), (7, .int .i64 (j : Nat))], H', []⟩ ∧ Mine H' 6 v (odsC l) ∧ (∀ b ∈ blk v, H.length ≤ b) ∧ Dk H' p (n + 1 + 6 * l.length) ∧ Chg [p] H H' ∧ l.length + j = j0 ∧ Drawn l id) (j := j0) ?_ (by omega)
    ⟨H1, .slice none 0 (some 0) 0, [], 0, by simp [maskS], .nil _ _, by simp, by simpa using d1, c1, by simp, ⟨by simp, .nil, by simp⟩⟩
  rintro j st ⟨H2, v, l, id, rfl, hv, hb, hd, c2, hlj, hdr⟩
  have hj0 : (j0 : Int) ≤ most := by omega
  have hll : l.length ≤ most := by omega
  cases j with
  | zero =>
    obtain ⟨av, cv, sv, ev⟩ := SO.form hv.sl
    subst ev
    simp
    exact ⟨l, hv, ⟨id, hdr⟩, hll, hd, c2, hb⟩
  | succ j =>
    have ht := hdr.top
    have hp0 : (0 : Int) < (j : Int) + 1 := by omega
    have wj : IntKind.i64.wrap ((j : Int) + 1 - 1) = (j : Int) := by rw [wrap_i64 (by omega) (by omega)]; omega
    have wj' : IntKind.i64.wrap (j : Int) = (j : Int) := wrap_i64 (by omega) (by omega)
    simp [hp0]
    refine Hx.mapp (n_ok (k := k + 6) hd (by omega) (m := 3) (by omega) (by omega)) ?_
    rintro ⟨r, H3⟩ ⟨d, e, hdd, d3, c3⟩
    simp only at e d3 c3
    subst e
    have w1 : IntKind.i64.wrap (1 + d) = 1 + d := wrap_i64 (by omega) (by omega)
    have w2 : IntKind.i64.wrap (id + (1 + d)) = id + (1 + d) := wrap_i64 (by omega) (by omega)
    simp [w1, w2]
    refine Hx.mapp (n_ok (k := k + 6) d3 (by omega) (m := 5) (by omega) (by omega)) ?_
    rintro ⟨r, H4⟩ ⟨x1, e, hx1, d4, c4⟩
    simp only at e d4 c4
    subst e
    have w3 : IntKind.i64.wrap (1 + x1) = 1 + x1 := wrap_i64 (by omega) (by omega)
    simp [w3]
    refine Hx.mapp (n_ok (k := k + 6) d4 (by omega) (m := 3) (by omega) (by omega)) ?_
    rintro ⟨r, H5⟩ ⟨x2, e, hx2, d5, c5⟩
    simp only at e d5 c5
    subst e
    simp
    refine Hx.mapp (n_ok (k := k + 6) d5 (by omega) (m := 2) (by omega) (by omega)) ?_
    rintro ⟨r, H6⟩ ⟨x3, e, hx3, d6, c6⟩
    simp only at e d6 c6
    subst e
    have w4 : IntKind.i64.wrap (1 + x3) = 1 + x3 := wrap_i64 (by omega) (by omega)
    simp [w4]
    refine Hx.mapp (n_ok (k := k + 6) d6 (by omega) (m := 40) (by omega) (by omega)) ?_
    rintro ⟨r, H7⟩ ⟨x4, e, hx4, d7, c7⟩
    simp only at e d7 c7
    subst e
    have w5 : IntKind.i64.wrap (1 + x4) = 1 + x4 := wrap_i64 (by omega) (by omega)
    simp [w5]
    refine Hx.mapp (n_ok (k := k + 6) d7 (by omega) (m := 10) (by omega) (by omega)) ?_
    rintro ⟨r, H8⟩ ⟨x5, e, hx5, d8, c8⟩
    simp only at e d8 c8
    subst e
    have w6 : IntKind.i64.wrap (95 + x5) = 95 + x5 := wrap_i64 (by omega) (by omega)
    have c28 : Chg [p] H2 H8 := c3.tr' (c4.tr' (c5.tr' (c6.tr' (c7.tr' c8))))
    obtain ⟨x, ex⟩ : ∃ x : Od, x = ⟨id + (1 + d), 1 + x1, x2, 1 + x3, 1 + x4, 95 + x5⟩ := ⟨_, rfl⟩
    obtain ⟨V2, e2⟩ : ∃ V2, V2 = H8 ++ [.cells x.cs .pl] := ⟨_, rfl⟩
    have cV : Chg [] H8 V2 := by rw [e2]; exact .app _ _
    have slY : SL V2 6 (.slice (some (H8.length, 0)) 1 (some 1) 6) x.cs := .at_ H8.length 0 1 (some 1) x.cs _ (by omega) (by rw [e2]; simp [rowOf]) (by simp [Od.cs]) (by simp [Od.cs]) (by simp)
    have hpb : ∀ i ∈ blk v, i ∉ [p] := fun i hi => by have := hb i hi; simp; omega
    have hv8 := (hv.chg c28 hpb).keep cV
    have happ := hv8.append slY (by_ := 48) (by omega) (by omega) (by simp [Od.cs]) (by simp [room, Od.cs]; omega)
    simp only [Od.cs, ex] at e2
    obtain ⟨av, cv, sv, ev⟩ := SO.form hv.sl
    rw [ev] at happ
    simp [w6, ev]
    rw [← e2]
    refine Hx.mapp happ ?_
    rw [← ev]
    rintro ⟨v', H9⟩ ⟨t1, t2, t3⟩
    simp only at t1 t2 t3
    rw [← odsC_snoc] at t1
    obtain ⟨av', cv', sv', ev'⟩ := SO.form t1.sl
    rw [ev']
    have c29 : Chg [p] H H9 := (c2.tr' (c28.tr cV)).trans t2 (fun i hi => .inr (hb i hi))
    have d9 : Dk H9 p (n + 1 + 6 * (l.length + 1)) := ((d8.keep cV).chg t2 (fun i hi => by have := hb i hi; omega)).more (by omega)
    simp [maskS, wj, wj']
    refine ⟨j, by omega, H9, v', l ++ [x], id + (1 + d), ?_, t1, fun b hb' => ?_, by simpa using d9, c29, by simp; omega, hdr.snoc (by omega) (by rw [ex]) (by rw [ex]; simp only; omega)⟩
    · simp [ev']
    · rcases t3 b hb' with h' | h'
      · exact hb b h'
      · have := cV.1; have := c28.1; have := c2.1; omega
end
end Go.Proofs.Ytpinfljbccjbkaa.T.Qu
end
section
/-! The document's Add; all of it told. -/
set_option linter.unusedVariables false
set_option linter.unusedSimpArgs false
set_option maxHeartbeats 4000000
set_option maxRecDepth 100000
namespace Go.Proofs.Ytpinfljbccjbkaa.T.Qu
open Go Go.Ab
section
variable {k p n : Nat} {H : AH}
theorem radd_ok {v : AV} {l : List Od} {o : Od} (h : SO H v l) (hl : l.length ≤ 1000000) (hk : l.length + 60 < k) : Hx (callA ap k (.func 24 [] []) [v, .agg o.cs] 0 H) fun r => ∃ vr, r.1 = .tuple [vr, .int .i64 (addB l o).2] ∧ SO r.2 vr (addB l o).1 ∧ Chg [] H r.2 := by
  obtain ⟨k, rfl⟩ : ∃ k', k = k' + 9 := ⟨k - 9, by omega⟩
  rw [hx_go fn24 rfl, b24]
  obtain ⟨a, c, s, rfl⟩ := h.form
  obtain ⟨G, eG⟩ : ∃ G, G = H ++ [.cells o.cs .rw] := ⟨_, rfl⟩
  have cG : Chg [] H G := by rw [eG]; exact .app _ _
  have gG : G[H.length]? = some (.cells o.cs .rw) := by rw [eG]; simp
  simp only [Od.cs] at eG
  simp [Od.cs]
  rw [← eG]
  refine hx_drawn dc24_1 fun X cX _ _ => ?_
  have cX' := cG.tr cX
  have hX := h.keep cX'
  have rX := rowOf_rw (cX.get gG (by simp))
  have hr := rorders_ok (k := k + 8) hX hl (by omega)
  have ho := rorder_ok (k := k + 6) (H := X) (o := o)
  simp only [Od.cs] at rX ho
  cases hrr : rightL l with
  | false =>
    have hA : addB l o = ([], 1) := by simp [addB, addBad, hrr]
    rw [hA]
    rw [hrr] at hr
    simp [d24_1, hr]
    exact ⟨.nil _ _, cX'⟩
  | true =>
  rw [hrr] at hr
  cases hoo : rightO o with
  | false =>
    have hA : addB l o = ([], 1) := by simp [addB, addBad, hoo]
    rw [hA]
    rw [hoo] at ho
    simp [d24_1, hr, rX, ho]
    exact ⟨.nil _ _, cX'⟩
  | true =>
  rw [hoo] at ho
  have hX' := hX
  by_cases h0 : 0 < l.length
  · obtain ⟨m, hm⟩ : ∃ m, l.length = m + 1 := ⟨l.length - 1, by omega⟩
    obtain ⟨b, ob, c', r, e, g0, gg⟩ := SO.all hX (by intro h; simp [h] at h0)
    obtain ⟨z1, z2, z3, z4⟩ := AV.slice.inj e
    subst z1 z3 z4
    obtain ⟨y, ey⟩ : ∃ y, y = l[m] := ⟨_, rfl⟩
    have f0 := (gg m (by omega)).2.2 0 (by omega)
    rw [← ey] at f0
    simp only [Od.cs, Nat.add_zero, List.getElem?_cons_zero] at f0
    have hgd : l.getD (l.length - 1) dO = y := by rw [hm, Nat.add_sub_cancel, getd (by omega : m < l.length), ey]
    have hp : (0 : Int) < l.length := by omega
    have w1 : IntKind.i64.wrap ((l.length : Int) - 1) = (m : Int) := by rw [wrap_i64 (by omega) (by omega)]; omega
    have hlt : (m : Int) < l.length := by omega
    have hlt' : m < l.length := by omega
    by_cases hid : o.id ≤ y.id
    · have hA : addB l o = ([], 1) := by rw [addB, addBad, hrr, hoo, hgd]; simp [h0, hid]
      rw [hA]
      simp [d24_1, hr, rX, ho, w1, h0, hp, hlt, hlt', g0, f0, hid]
      exact ⟨.nil _ _, cX'⟩
    · have hB : addBad l o = false := by rw [addBad, hrr, hoo, hgd]; simp [hid]
      simp [d24_1, hr, rX, ho, w1, h0, hp, hlt, hlt', g0, f0, hid]
      by_cases h32 : l.length = 32
      · have hA : addB l o = ([], 5) := by rw [addB, hB, h32]; simp
        have h32' : (l.length : Int) = 32 := by omega
        rw [hA]
        simp [h32, h32']
        exact ⟨.nil _ _, cX'⟩
      · have hA : addB l o = (l ++ [o], 0) := by rw [addB, hB, if_neg (by simp), if_neg h32]
        have h32' : ¬ (l.length : Int) = 32 := by omega
        rw [hA]
        simp [h32, h32']
        refine hx_drawn dc24_5 fun Y cY hl' hd => ?_
        have gY := (cX.tr cY).get gG (by simp)
        have rY := rowOf_rw gY
        have hd0 := hd 0 (by simp [d24_5])
        have hd4 := hd 4 (by simp [d24_5])
        have hlY : Y.length = X.length + 8 := hl'
        simp only [Nat.add_zero] at hd0
        have hHX : H.length < X.length := by have := lt_of_get gG; have := cX.1; omega
        obtain ⟨Y1, e1⟩ : ∃ Y1, Y1 = Y.set X.length (.cells [] .pl) := ⟨_, rfl⟩
        have cY1 : Chg [X.length] Y Y1 := by rw [e1]; exact .set _ _ _
        have rY1 := cY1.row rY (by simp; omega)
        have hb0 : rowOf Y1 X.length = some [] := by rw [e1]; simp [rowOf, lt_of_get hd0]
        have hd41 := cY1.get hd4 (by simp)
        have hlY1 : Y1.length = Y.length := by rw [e1]; simp
        have hXY := SL.chg (hX.keep cY) cY1 (fun i hi => by have := hX.lt i hi; simp; omega)
        have happ := Og.append (by_ := 48) (.zero hb0) hXY (by omega) (by omega) (odsC_one l) (by simp [room]; omega)
        simp only [Od.cs] at rY rY1
        simp [d24_5, hd0]
        rw [← e1]
        simp [rY1]
        refine Hx.mapp happ ?_
        rintro ⟨w, Z⟩ ⟨t1, t2, t3⟩
        simp only [List.nil_append] at t1 t2 t3
        have t3' : ∀ i ∈ blk w, i = X.length ∨ Y1.length ≤ i := fun i hi => by simpa using t3 i hi
        have rZ := t2.row rY1 (by simp; omega)
        have hdZ := t2.get hd41 (by simp)
        obtain ⟨aw, cw, sw, ew⟩ := SO.form (t1.sl (by omega))
        subst ew
        obtain ⟨Z2, e2⟩ : ∃ Z2, Z2 = Z.set (X.length + 4) (.cells o.cs .pl) := ⟨_, rfl⟩
        have cZ2 : Chg [X.length + 4] Z Z2 := by rw [e2]; exact .set _ _ _
        have rZ2 : rowOf Z2 (X.length + 4) = some o.cs := by rw [e2]; simp [rowOf, lt_of_get hdZ]
        have slY : SL Z2 6 (.slice (some (X.length + 4, 0)) 1 (some 1) 6) o.cs := .at_ _ 0 1 (some 1) o.cs _ (by omega) rZ2 (by simp [Od.cs]) (by simp [Od.cs]) (by simp)
        have rz2 := cZ2.row rZ (by simp; omega)
        have happ2 := Og.append (by_ := 48) (t1.chg cZ2 (fun i hi => by have := t3' i hi; simp; omega)) slY (by omega) (by omega) (by simp [Od.cs]) (by simp [room, Od.cs]; omega)
        rw [← odsC_snoc] at happ2
        simp only [Od.cs] at e2
        simp [rZ, hdZ, hd41]
        rw [← e2]
        refine Hx.mapp happ2 ?_
        rintro ⟨w2, Z3⟩ ⟨u1, u2, u3⟩
        simp only at u1 u2 u3
        obtain ⟨aw2, cw2, sw2, ew2⟩ := SO.form (u1.sl (by omega))
        subst ew2
        have rZ3 := u2.row rz2 (fun hi => by have := t3' _ hi; have := cY.1; omega)
        simp [rz2, rZ3, rY1]
        have cHY1 : Chg [] H Y1 := by rw [e1]; exact (cX'.tr cY).set_new (by omega) _
        have cHZ : Chg [] H Z := cHY1.trans t2 (fun i hi => .inr (by simp at hi; omega))
        have cHZ2 : Chg [] H Z2 := by rw [e2]; exact cHZ.set_new (by omega) _
        have us := u1.sl (by omega : 0 < 6)
        simp only [List.length_append, List.length_cons, List.length_nil, List.nil_append] at us
        exact ⟨us, cHZ2.trans u2 (fun i hi => .inr (by have := t3' i hi; have := cX'.1; omega))⟩
  · have hl0 : l = [] := List.length_eq_zero_iff.1 (by omega)
    have hB : addBad l o = false := by rw [addBad, hrr, hoo]; simp [h0]
    subst hl0
    simp only [List.length_nil] at hr hX
    have hA : addB [] o = ([o], 0) := by rw [addB, hB]; simp
    rw [hA]
    simp [d24_1, hr, rX, ho]
    refine hx_drawn dc24_5 fun Y cY hl' hd => ?_
    have gY := (cX.tr cY).get gG (by simp)
    have rY := rowOf_rw gY
    have hd0 := hd 0 (by simp [d24_5])
    have hd4 := hd 4 (by simp [d24_5])
    have hlY : Y.length = X.length + 8 := hl'
    simp only [Nat.add_zero] at hd0
    have hHX : H.length < X.length := by have := lt_of_get gG; have := cX.1; omega
    obtain ⟨Y1, e1⟩ : ∃ Y1, Y1 = Y.set X.length (.cells [] .pl) := ⟨_, rfl⟩
    have cY1 : Chg [X.length] Y Y1 := by rw [e1]; exact .set _ _ _
    have rY1 := cY1.row rY (by simp; omega)
    have hb0 : rowOf Y1 X.length = some [] := by rw [e1]; simp [rowOf, lt_of_get hd0]
    have hd41 := cY1.get hd4 (by simp)
    have hlY1 : Y1.length = Y.length := by rw [e1]; simp
    have hXY := SL.chg (hX.keep cY) cY1 (fun i hi => by have := hX.lt i hi; simp; omega)
    have happ := Og.append (by_ := 48) (.zero hb0) hXY (by omega) (by omega) (odsC_one []) (by simp [room])
    simp only [Od.cs] at rY rY1
    simp [d24_5, hd0]
    rw [← e1]
    simp [rY1]
    refine Hx.mapp happ ?_
    rintro ⟨w, Z⟩ ⟨t1, t2, t3⟩
    simp only [List.nil_append] at t1 t2 t3
    have t3' : ∀ i ∈ blk w, i = X.length ∨ Y1.length ≤ i := fun i hi => by simpa using t3 i hi
    have rZ := t2.row rY1 (by simp; omega)
    have hdZ := t2.get hd41 (by simp)
    obtain ⟨aw, cw, sw, ew⟩ := SO.form (t1.sl (by omega))
    subst ew
    obtain ⟨Z2, e2⟩ : ∃ Z2, Z2 = Z.set (X.length + 4) (.cells o.cs .pl) := ⟨_, rfl⟩
    have cZ2 : Chg [X.length + 4] Z Z2 := by rw [e2]; exact .set _ _ _
    have rZ2 : rowOf Z2 (X.length + 4) = some o.cs := by rw [e2]; simp [rowOf, lt_of_get hdZ]
    have slY : SL Z2 6 (.slice (some (X.length + 4, 0)) 1 (some 1) 6) o.cs := .at_ _ 0 1 (some 1) o.cs _ (by omega) rZ2 (by simp [Od.cs]) (by simp [Od.cs]) (by simp)
    have rz2 := cZ2.row rZ (by simp; omega)
    have happ2 := Og.append (by_ := 48) (t1.chg cZ2 (fun i hi => by have := t3' i hi; simp; omega)) slY (by omega) (by omega) (by simp [Od.cs]) (by simp [room, Od.cs])
    rw [← odsC_snoc] at happ2
    simp only [Od.cs] at e2
    simp [rZ, hdZ, hd41]
    rw [← e2]
    refine Hx.mapp happ2 ?_
    rintro ⟨w2, Z3⟩ ⟨u1, u2, u3⟩
    simp only at u1 u2 u3
    obtain ⟨aw2, cw2, sw2, ew2⟩ := SO.form (u1.sl (by omega))
    subst ew2
    have rZ3 := u2.row rz2 (fun hi => by have := t3' _ hi; have := cY.1; omega)
    simp [rz2, rZ3, rY1]
    have cHY1 : Chg [] H Y1 := by rw [e1]; exact (cX'.tr cY).set_new (by omega) _
    have cHZ : Chg [] H Z := cHY1.trans t2 (fun i hi => .inr (by simp at hi; omega))
    have cHZ2 : Chg [] H Z2 := by rw [e2]; exact cHZ.set_new (by omega) _
    have us := u1.sl (by omega : 0 < 6)
    simp only [List.length_append, List.length_cons, List.length_nil, List.nil_append] at us
    exact ⟨us, cHZ2.trans u2 (fun i hi => .inr (by have := t3' i hi; have := cX'.1; omega))⟩
end
end Go.Proofs.Ytpinfljbccjbkaa.T.Qu
end
section
/-! All of it told, as the document says. -/
set_option linter.unusedVariables false
set_option linter.unusedSimpArgs false
set_option maxHeartbeats 4000000
set_option maxRecDepth 100000
namespace Go.Proofs.Ytpinfljbccjbkaa.T.Qu
open Go Go.Ab
theorem walk_same {l : List Od} {inst side : Int} : walkRB l inst side = walkB l inst side := by
  unfold walkRB walkB
  split
  · rename_i h
    exact ((walkN_eq (right_ord h) _ (Nat.le_refl _)).1).symm
  · rfl
theorem addB_len {l : List Od} {o : Od} : (addB l o).1.length ≤ l.length + 1 := by
  unfold addB
  split
  · simp
  · split <;> simp
theorem cancelB_len {l : List Od} {acc id : Int} : (cancelB l acc id).1.length ≤ l.length := by
  unfold cancelB
  split
  · split
    · exact eraseIdx_len
    · simp
  · simp
theorem dropB_len {l : List Od} {accs : List Int} : (dropB l accs).length ≤ l.length := by
  unfold dropB
  split
  · exact List.length_filter_le _ _
  · simp
theorem opensB_len {l : List Od} {acc : Int} : (opensB l acc).length ≤ 6 := by
  unfold opensB
  split
  · exact opensN_len 6
  · simp
section
variable {k p n : Nat} {H : AH}
theorem told_ok {v va : AV} {l : List Od} {o : Od} {accs : List Int} {acc inst side id : Int} (h : SO H v l) (ha : SL H 1 va (ints accs)) (hl : l.length ≤ 100) (hl2 : accs.length ≤ 100) (hk : 500 < k) :
    Hx (callA ap k (.func 11 [] []) [v, .agg o.cs, va, .int .i64 acc, .int .i64 inst, .int .i64 side, .int .i64 id] 0 H) fun r => r.1 = .bool true ∧ Chg [] H r.2 := by
  obtain ⟨k, rfl⟩ : ∃ k', k = k' + 9 := ⟨k - 9, by omega⟩
  rw [hx_go fn11 rfl, b11]
  obtain ⟨a, c, s, rfl⟩ := h.form
  obtain ⟨a', c', s', rfl⟩ := ha.form1
  rw [ints_len] at ha ⊢
  obtain ⟨G, eG⟩ : ∃ G, G = H ++ [.cells o.cs .rw] := ⟨_, rfl⟩
  have cG : Chg [] H G := by rw [eG]; exact .app _ _
  have rG : rowOf G H.length = some o.cs := by rw [eG]; simp [Od.cs]
  have b1 := addB_len (l := l) (o := o)
  have b2 := cancelB_len (l := l) (acc := acc) (id := id)
  have b3 := dropB_len (l := l) (accs := accs)
  have b4 := opensB_len (l := l) (acc := acc)
  have b5 := walkB_len (l := l) (inst := inst) (side := side)
  have hm1 := add_ok (k := k + 8) (o := o) (h.keep cG) (by omega) (by omega)
  simp only [Od.cs, tag_eq] at eG rG hm1
  simp [Od.cs]
  rw [← eG]
  simp [rG]
  refine Hx.mapp hm1 ?_
  rintro ⟨r, H1⟩ ⟨v1, e, t1, c1⟩
  simp only at e t1 c1
  subst e
  obtain ⟨x1, y1, z1, rfl⟩ := SO.form t1
  have r1 := c1.row rG (by simp)
  have hm2 := radd_ok (k := k + 8) (o := o) (h.keep (cG.tr c1)) (by omega) (by omega)
  simp only [Od.cs, tag_eq] at hm2
  simp [r1]
  refine Hx.mapp hm2 ?_
  rintro ⟨r, H2⟩ ⟨v2, e, t2, c2⟩
  simp only at e t2 c2
  subst e
  obtain ⟨x2, y2, z2, rfl⟩ := SO.form t2
  simp
  refine Hx.mapp (cancel_ok (k := k + 8) (h.keep (cG.tr (c1.tr c2))) (by omega) (by omega)) ?_
  rintro ⟨r, H3⟩ ⟨v3, e, t3, c3⟩
  simp only at e t3 c3
  subst e
  obtain ⟨x3, y3, z3, rfl⟩ := SO.form t3
  simp
  refine Hx.mapp (rcancel_ok (k := k + 8) (h.keep (cG.tr (c1.tr (c2.tr c3)))) (by omega) (by omega)) ?_
  rintro ⟨r, H4⟩ ⟨v4, e, t4, c4⟩
  simp only at e t4 c4
  subst e
  obtain ⟨x4, y4, z4, rfl⟩ := SO.form t4
  simp
  refine hx_drawn dc11_5 fun X cX _ _ => ?_
  have cH : Chg [] H X := cG.tr (c1.tr (c2.tr (c3.tr (c4.tr cX))))
  have hX := h.keep cH
  have haX := ha.keep cH
  have rX := (c1.tr (c2.tr (c3.tr (c4.tr cX)))).row rG (by simp)
  have k1 := orders_eq (k := k + 8) (t1.keep (c2.tr (c3.tr (c4.tr cX)))) (t2.keep (c3.tr (c4.tr cX))) (by omega) (by omega) (by omega)
  have k2 := orders_eq (k := k + 8) (t3.keep (c4.tr cX)) (t4.keep cX) (by omega) (by omega) (by omega)
  simp [d11_5, k1, k2]
  refine Hx.mapp (drop_ok (k := k + 8) hX haX (by omega) (by omega) (by omega)) ?_
  rintro ⟨r, Y1⟩ ⟨u1, d1⟩
  simp only at u1 d1
  obtain ⟨x5, y5, z5, rfl⟩ := SO.form u1
  simp
  refine Hx.mapp (rdrop_ok (k := k + 8) (hX.keep d1) (haX.keep d1) (by omega) (by omega) (by omega)) ?_
  rintro ⟨r, Y2⟩ ⟨u2, d2⟩
  simp only at u2 d2
  obtain ⟨x6, y6, z6, rfl⟩ := SO.form u2
  have k3 := orders_eq (k := k + 8) (u1.keep d2) u2 (by omega) (by omega) (by omega)
  simp [k3]
  refine Hx.mapp (opens_ok (k := k + 8) (hX.keep (d1.tr d2)) (by omega) (by omega)) ?_
  rintro ⟨r, Y3⟩ ⟨u3, d3, _⟩
  simp only at u3 d3
  obtain ⟨x7, y7, z7, rfl⟩ := SP.form u3
  simp
  refine Hx.mapp (ropens_ok (k := k + 8) (hX.keep (d1.tr (d2.tr d3))) (by omega) (by omega)) ?_
  rintro ⟨r, Y4⟩ ⟨u4, d4⟩
  simp only at u4 d4
  obtain ⟨x8, y8, z8, rfl⟩ := SP.form u4
  have k4 := opens_eq (k := k + 8) (u3.keep d4) u4 (by omega) (by omega) (by omega)
  simp [k4]
  refine Hx.mapp (walked_ok (k := k + 8) (hX.keep (d1.tr (d2.tr (d3.tr d4)))) (by omega) (by omega)) ?_
  rintro ⟨r, Y5⟩ ⟨u5, d5⟩
  simp only at u5 d5
  obtain ⟨x9, y9, z9, rfl⟩ := SO.form u5
  simp
  refine Hx.mapp (rwalk_ok (k := k + 8) (hX.keep (d1.tr (d2.tr (d3.tr (d4.tr d5))))) (by omega) (by omega)) ?_
  rintro ⟨r, Y6⟩ ⟨u6, d6, _⟩
  simp only at u6 d6
  rw [walk_same] at u6
  obtain ⟨x0, y0, z0, rfl⟩ := SO.form u6
  have k5 := orders_eq (k := k + 8) (u5.keep d6) u6 (by omega) (by omega) (by omega)
  have cc : Chg [] X Y6 := d1.tr (d2.tr (d3.tr (d4.tr (d5.tr d6))))
  have k6 := right_ok (k := k + 8) (hX.keep cc) (by omega) (by omega)
  have k7 := rorders_ok (k := k + 8) (hX.keep cc) (by omega) (by omega)
  have k8 := order_ok (k := k + 7) (H := Y6) (o := o)
  have k9 := rorder_ok (k := k + 6) (H := Y6) (o := o)
  have rY := cc.row rX (by simp)
  simp only [Od.cs] at k8 k9
  simp [k5, k6, k7, k8, k9, rY, eqV]
  exact cH.tr cc
end
end Go.Proofs.Ytpinfljbccjbkaa.T.Qu
end
section
/-! What is known. -/
set_option linter.unusedVariables false
set_option linter.unusedSimpArgs false
set_option maxHeartbeats 4000000
set_option maxRecDepth 100000
namespace Go.Proofs.Ytpinfljbccjbkaa.T.Qu
open Go Go.Ab
theorem ints_snoc (a : List Int) (x : Int) : ints (a ++ [x]) = ints a ++ [.int .i64 x] := by simp [ints]
theorem ints_one (l : List Int) : (ints l).all AV.one = true := by simp [ints]
section
variable {k p n : Nat} {H : AH}
theorem ints_eq {v w : AV} {l m : List Int} (ha : SL H 1 v (ints l)) (hb : SL H 1 w (ints m)) (hl : l.length ≤ 1000000) (hl2 : m.length ≤ 1000000) (hk : l.length + 10 < k) : Hx (callA ap k (.func 20 [] []) [v, w] 0 H) fun r => r.1 = .bool (decide (l = m)) ∧ Chg [] H r.2 := by
  obtain ⟨k, rfl⟩ : ∃ k', k = k' + 1 := ⟨k - 1, by omega⟩
  rw [hx_go fn20 rfl, b20]
  obtain ⟨x, c, s, rfl⟩ := ha.form1
  obtain ⟨x', c', s', rfl⟩ := hb.form1
  rw [ints_len] at ha hb ⊢
  rw [ints_len]
  by_cases hn : l.length = m.length
  · simp [hn]
    refine hx_up (fun i s1 => ∃ H', s1 = ⟨sp 26 [(0, .slice x m.length c s), (1, .slice x' m.length c' s'), (5, .int .i64 i)], H', []⟩ ∧ Chg [] H H' ∧ ∀ j (h1 : j < l.length) (h2 : j < m.length), j < i → l[j] = m[j]) m.length ?_ ?_ (by omega) ⟨H, rfl, .refl, by simp⟩
    · rintro i _ hi ⟨H', rfl, c1, hq⟩
      have hw : IntKind.i64.wrap ((i : Int) + 1) = ((i + 1 : Nat) : Int) := by rw [wrap_i64 (by omega) (by omega)]; omega
      simp [hi]
      refine hx_drawn dc20_6 fun H1 c2 _ _ => ?_
      have hi' : i < l.length := hn ▸ hi
      have c3 := c1.tr c2
      obtain ⟨b0, o0, c0, r0, e0, g0, g1⟩ := (ha.keep c3).get1 (i := i) (by simpa using hi')
      obtain ⟨b1, o1, c1', r1, e1, g2, g3⟩ := (hb.keep c3).get1 (i := i) (by simpa using hi)
      obtain ⟨z1, z2, z3, z4⟩ := AV.slice.inj e0
      subst z1 z3 z4
      obtain ⟨z1, z2, z3, z4⟩ := AV.slice.inj e1
      subst z1 z3 z4
      have q1 : (ints l)[i]? = some (.int .i64 l[i]) := by simp [ints, hi']
      have q2 : (ints m)[i]? = some (.int .i64 m[i]) := by simp [ints, hi]
      rw [q1] at g1
      rw [q2] at g3
      have hup : l[i] = m[i] → ∀ j (h1 : j < l.length) (h2 : j < m.length), j < i + 1 → l[j] = m[j] := fun he j h1 h2 hj => by
        rcases Nat.lt_succ_iff_lt_or_eq.1 hj with hj | rfl
        · exact hq j h1 h2 hj
        · exact he
      have hne : ¬ l[i] = m[i] → ¬ l = m := fun h e => h (by subst e; rfl)
      generalize l[i] = p at *
      generalize m[i] = q at *
      by_cases he : p = q
      · subst he
        simp [d20_6, hi, g0, g1, g2, g3, hw, eqV]
        exact ⟨H1, rfl, c3, hup rfl⟩
      · simp [d20_6, hi, g0, g1, g2, g3, hw, hne he, eqV, he, c3]
    · rintro _ ⟨H', rfl, c1, hq⟩
      have he : l = m := List.ext_getElem hn fun j h1 h2 => hq j h1 h2 h2
      simp [he, c1]
  · have hne : ¬ l = m := fun e => hn (by rw [e])
    have hn' : ¬ (l.length : Int) = (m.length : Int) := by omega
    simp [hn', hne]
    exact .refl
def oA : Od := ⟨1, 1, 0, 1, 5, 10⟩
def oB : Od := ⟨2, 2, 0, 1, 6, 11⟩
theorem csA : oA.cs = [.int .i64 1, .int .i64 1, .int .i64 0, .int .i64 1, .int .i64 5, .int .i64 10] := rfl
theorem csB : oB.cs = [.int .i64 2, .int .i64 2, .int .i64 0, .int .i64 1, .int .i64 6, .int .i64 11] := rfl
theorem kn1 : addB [] oA = ([oA], 0) := by decide
theorem kn2 : addB [oA] oB = ([oA, oB], 0) := by decide
theorem kn3 : cancelB [oA, oB] 1 1 = ([oB], 0) := by decide
theorem kn4 : walkB [oA, oB] 0 1 = [oB, oA] := by decide
theorem kn5 : addB [oA, oB] oA = ([], 1) := by decide
theorem kn6 : opensB [oA, oB] 2 = [⟨0, 6, 0⟩] := by decide
theorem kn7 : dropB [oA, oB] [2] = [oA] := by decide
theorem kn8 : rightL [oA, oB] = true := by decide
theorem kn9 : rightO oA = true := by decide
structure KI (H : AH) (p c : Nat) (w : AV) (B j : Nat) (v : AV) (X : AH) : Prop where
  hp : X[p]? = some (.cells [v] .rw)
  hc : X[c]? = some (.cells [w] .rw)
  ho : OwnS X w [oB, oA]
  hv : Mine X 1 v (ints ([2, 1].take j))
  bv : ∀ b ∈ blk v, B ≤ b
  ch : Chg [] H X
theorem KI.keep {p c : Nat} {w : AV} {B j : Nat} {v : AV} {X Y : AH} (h : KI H p c w B j v X) (cc : Chg [] X Y) : KI H p c w B j v Y :=
  ⟨cc.get h.hp (by simp), cc.get h.hc (by simp), h.ho.chg cc (by simp), h.hv.keep cc, h.bv, h.ch.tr cc⟩
theorem KI.ls {p c : Nat} {w : AV} {B j d : Nat} {v : AV} {X Y : AH} (h : KI H p c w B j v X) (hd : d < B) (hpd : p ≠ d) (hcd : c ≠ d) (hw : ∀ i ∈ blk w, i ≠ d) (hH : H.length ≤ d) (cc : LS d X Y) : KI H p c w B j v Y :=
  ⟨cc.1.get h.hp (by simp [hpd]), cc.1.get h.hc (by simp [hcd]), h.ho.chg cc.1 (fun i hi => by simp [hw i hi]), h.hv.chg cc.1 (fun i hi => by have := h.bv i hi; simp; omega), h.bv, h.ch.trans cc.1 (by simp; omega)⟩
theorem known_ok (hk : 200 < k) : Hx (callA ap k (.func 7 [] []) [] 0 H) fun r => r.1 = .bool true ∧ Chg [] H r.2 := by
  obtain ⟨k, rfl⟩ : ∃ k', k = k' + 9 := ⟨k - 9, by omega⟩
  rw [hx_go fn7 rfl, b7]
  obtain ⟨G, eG⟩ : ∃ G, G = H ++ [.cells oA.cs .rw, .cells oB.cs .rw] := ⟨_, rfl⟩
  have cG : Chg [] H G := by rw [eG]; exact .app _ _
  have rA : rowOf G H.length = some oA.cs := by rw [eG]; simp [csA, csB]
  have rB : rowOf G (H.length + 1) = some oB.cs := by rw [eG]; simp [csA, csB]
  have lG : G.length = H.length + 2 := by rw [eG]; simp
  have hm1 := add_ok (k := k + 8) (H := G) (v := .slice none 0 (some 0) 0) (l := []) (o := oA) (.nil _ _) (by simp) (by simp; omega)
  rw [kn1] at hm1
  simp only [csA, csB, tag_eq] at eG rA rB hm1
  simp
  rw [← eG]
  refine Hx.mapp hm1 ?_
  rintro ⟨r, H1⟩ ⟨v1, e, t1, c1⟩
  simp only at e t1 c1
  subst e
  obtain ⟨x1, y1, z1, ev⟩ := SO.form t1
  simp only [List.length_cons, List.length_nil, Nat.zero_add, Nat.reduceAdd] at ev
  subst ev
  have rB1 := c1.row rB (by simp)
  have hm2 := add_ok (k := k + 8) (o := oB) t1 (by simp) (by simp; omega)
  rw [kn2] at hm2
  simp only [csA, csB, tag_eq] at hm2
  simp [rB1]
  refine Hx.mapp hm2 ?_
  rintro ⟨r, H2⟩ ⟨v2, e, t2, c2⟩
  simp only at e t2 c2
  subst e
  obtain ⟨x2, y2, z2, ev⟩ := SO.form t2
  simp only [List.length_cons, List.length_nil, Nat.zero_add, Nat.reduceAdd] at ev
  subst ev
  simp
  have hm3 := cancel_ok (k := k + 8) (acc := 1) (id := 1) t2 (by simp) (by simp; omega)
  rw [kn3] at hm3
  refine Hx.mapp hm3 ?_
  rintro ⟨r, H3⟩ ⟨v3, e, t3, c3⟩
  simp only at e t3 c3
  subst e
  obtain ⟨x3, y3, z3, ev⟩ := SO.form t3
  simp only [List.length_cons, List.length_nil, Nat.zero_add, Nat.reduceAdd] at ev
  subst ev
  have t2' : SO H2 (.slice x2 2 y2 z2) [oA, oB] := t2
  have t3' : SO H3 (.slice x3 1 y3 z3) [oB] := t3
  obtain ⟨G3, e3⟩ : ∃ G3, G3 = H3 ++ [.cells [.slice none 0 (some 0) 0] .rw] := ⟨_, rfl⟩
  have cG3 : Chg [] H3 G3 := by rw [e3]; exact .app _ _
  have g3 : G3[H3.length]? = some (.cells [.slice none 0 (some 0) 0] .rw) := by rw [e3]; simp
  have lG3 : G3.length = H3.length + 1 := by rw [e3]; simp
  simp
  rw [← e3]
  refine Hx.mapp (walk_ok (k := k + 8) (inst := 0) (side := 1) (t2'.keep (c3.tr cG3)) (by simp) (by simp; omega)) ?_
  rintro ⟨g, H4⟩ ⟨cw, w, eg, c4, hcw, gw, how, hbw⟩
  simp only at eg c4 hcw gw how hbw
  subst eg
  rw [kn4] at how
  have hBw : ∀ i ∈ blk w, i < H4.length := how.so.lt
  have lcw := lt_of_get gw
  have lH4 : H3.length < H4.length := by have := c4.1; omega
  have lHH : H.length ≤ H3.length := by have := cG.1; have := c1.1; have := c2.1; have := c3.1; omega
  have cHG3 : Chg [] H G3 := cG.tr (c1.tr (c2.tr (c3.tr cG3)))
  have h0 : KI H3 H3.length cw w (H4.length + 2) 0 (.slice none 0 (some 0) 0) H4 := ⟨c4.get g3 (by simp), gw, how, .nil _ _, by simp, cG3.tr c4⟩
  have hls : ∀ {j : Nat} {v : AV} {X Y : AH}, KI H3 H3.length cw w (H4.length + 2) j v X → LS (H4.length + 1) X Y → KI H3 H3.length cw w (H4.length + 2) j v Y := fun hm cc => hm.ls (by omega) (by omega) (by omega) (fun i hi => by have := hBw i hi; omega) (by omega) cc
  simp [eqV]
  refine hx_rangeG (fun j _ a => a = [.agg (([oB, oA] : List Od).getD j dO).cs]) (fun X => X[cw]? = some (.cells [w] .rw) ∧ OwnS X w [oB, oA])
    (fun j X => ∃ v, KI H3 H3.length cw w (H4.length + 2) j v X) (fun x X => False) (n := 2) rfl (walk1_goes (own := [oB, oA]) (by simp) (by simp; omega))
    ?_ (fun _ _ _ h _ => h.elim) (fun j X ⟨_, hm⟩ => ⟨hm.hc, hm.ho⟩) (fun j X a e => by rw [e]; rfl) ⟨_, h0⟩ ?_ ?_ ?_
  · rintro j X Y ⟨v, hm⟩ (c | c)
    · exact ⟨v, hm.keep c⟩
    · exact ⟨v, hls hm c⟩
  · rintro j hj X a hI rfl hl1 hd1
    obtain ⟨x, hx⟩ : ∃ x, x = ([oB, oA] : List Od).getD j dO := ⟨_, rfl⟩
    have htk : ([2, 1] : List Int).take (j + 1) = ([2, 1] : List Int).take j ++ [x.id] := by
      have : j = 0 ∨ j = 1 := by omega
      rcases this with rfl | rfl
      · rw [hx]; rfl
      · rw [hx]; rfl
    rw [← hx]
    unfold as7_0
    simp [setL, Od.cs]
    refine ⟨.app _ _, fun Y hls' hlY hdY v hm ms => ?_⟩
    have hXB : H4.length < X.length := lt_of_get hd1
    have r11 : rowOf Y X.length = some _ := hls'.row (H := X ++ [.cells x.cs .rw]) (by simp [Od.cs]; rfl)
    have r7 := rowOf_rw hm.hp
    unfold bd7_0
    obtain ⟨av, cv, sv, ev⟩ := hm.hv.sl.form1
    obtain ⟨V, eV⟩ : ∃ V, V = Y ++ [.cells [.int .i64 x.id] .pl] := ⟨_, rfl⟩
    have cV : Chg [] Y V := by rw [eV]; exact .app _ _
    have slY : SL V 1 (.slice (some (Y.length, 0)) 1 (some 1) 1) [.int .i64 x.id] := .at_ _ 0 1 (some 1) [.int .i64 x.id] _ (by omega) (by rw [eV]; simp [rowOf]) (by simp) (by simp) (by simp)
    have htl0 : (ints (([2, 1] : List Int).take j)).length = j := by rw [ints_len, List.length_take]; simp; omega
    have htl1 : (ints (([2, 1] : List Int).take (j + 1))).length = j + 1 := by rw [ints_len, List.length_take]; simp; omega
    rw [htl0] at ev
    have happ := (hm.hv.keep cV).append slY (by_ := 8) (by omega) (by omega) (by simp) (by rw [htl0]; simp [room]; omega)
    rw [← ints_snoc, ← htk] at happ
    rw [ev] at r7 happ
    simp [r7, r11]
    rw [← eV]
    have lY : H4.length + 1 < Y.length := by
      have : isLoop Y[H4.length + 1]? := hlY
      by_cases hlt : H4.length + 1 < Y.length
      · exact hlt
      · rw [List.getElem?_eq_none (by omega)] at this
        exact this.elim
    refine Hx.mapp happ ?_
    rintro ⟨v', W⟩ ⟨u1, u2, u3⟩
    simp only at u1 u2 u3
    rw [← ev] at u2 u3
    have hbv := hm.bv
    have n1 : ∀ i, i < H4.length + 2 → i ∉ blk v := fun i hi h => by have := hbv i h; omega
    have c5 : ∀ {i : Nat} {A : AB}, i < H4.length + 2 → Y[i]? = some A → W[i]? = some A := fun hi hA => u2.get (cV.get hA (by simp)) (n1 _ hi)
    have gp := c5 (by omega) hm.hp
    have wp : rowRw W 0 H3.length = some _ := rowRw_rw gp
    obtain ⟨av', cv', sv', ev'⟩ := u1.sl.form1
    rw [htl1] at ev'
    rw [ev] at wp
    rw [ev'] at u1 u3 ⊢
    simp [wp]
    have cS : ∀ A, Chg [H3.length] W (W.set H3.length A) := fun A => .set _ _ _
    have lpW := lt_of_get gp
    have bv' : ∀ b ∈ blk (AV.slice av' (j + 1) cv' sv'), H4.length + 2 ≤ b := fun b hb => by
      rcases u3 b hb with h' | h'
      · exact hbv b h'
      · have := cV.1; omega
    obtain ⟨A, eA⟩ : ∃ A, Y[H4.length + 1]? = some A := by
      cases hY : Y[H4.length + 1]? with
      | none => rw [List.getElem?_eq_none_iff] at hY; omega
      | some A => exact ⟨A, rfl⟩
    refine ⟨?_, ?_, _, List.getElem?_set_self lpW, ?_, ?_, u1.chg (cS _) (fun i hi => by have := bv' i hi; simp; omega), bv', ?_⟩
    · rw [List.getElem?_set_ne (by omega), c5 (by omega) eA, eA]
    · rw [List.getElem?_set_ne (by omega), c5 (by omega) hdY, hdY]
    · rw [List.getElem?_set_ne (by omega)]; exact c5 (by omega) hm.hc
    · exact ((hm.ho.chg cV (by simp)).chg u2 (fun i hi => n1 i (by have := hBw i hi; omega))).chg (cS _) (fun i hi => by have := hbw i hi; simp; omega)
    · exact (((hm.ch.tr cV).trans u2 (fun i hi => .inr (by have := hbv i hi; omega)))).set_new (by omega) _
  · rintro X ⟨v, hm⟩ hd
    have r7 := rowOf_rw hm.hp
    have hv := hm.hv.sl
    obtain ⟨av, cv, sv, ev⟩ := hv.form1
    have hvl : (ints (([2, 1] : List Int).take 2)).length = 2 := rfl
    rw [hvl] at ev
    subst ev
    have rAX := (c1.tr (c2.tr (c3.tr hm.ch))).row rA (by simp)
    have hm5 := add_ok (k := k + 8) (o := oA) (t2'.keep (c3.tr hm.ch)) (by simp) (by simp; omega)
    rw [kn5] at hm5
    simp only [csA, csB, tag_eq] at hm5
    simp [rAX]
    refine Hx.mapp hm5 ?_
    rintro ⟨r, H5⟩ ⟨v5, e, t5, c5⟩
    simp only at e t5 c5
    subst e
    obtain ⟨x5, y5, z5, ev5⟩ := SO.form t5
    simp only [List.length_nil] at ev5
    subst ev5
    simp
    refine hx_drawn dc7_13 fun Z cZ hlZ hdZ => ?_
    have hd24 := hdZ 24 (by simp [d7_13])
    have hd35 := hdZ 35 (by simp [d7_13])
    have hd40 := hdZ 40 (by simp [d7_13])
    have hd' : H5[H4.length]? = some (.deferred false) := c5.get hd (by simp)
    have cXZ : Chg [] H3 Z := hm.ch.tr (c5.tr cZ)
    have rAZ := (c5.tr cZ).row rAX (by simp)
    have rBZ := (c1.tr (c2.tr (c3.tr cXZ))).row rB (by simp)
    obtain ⟨b, ob, c', rr, e, q0, qq⟩ := SO.all (t3'.keep cXZ) (by simp)
    obtain ⟨i1, i2, i3, i4⟩ := AV.slice.inj e
    subst i1 i3 i4
    obtain ⟨q1, q2, -⟩ := qq 0 (by simp)
    simp only [Nat.zero_mul, Nat.add_zero, List.getElem_cons_zero, csB] at q1 q2
    have rvZ := (c5.tr cZ).row r7 (by simp)
    have hl5 : H3.length < H5.length := by have := lt_of_get hm.hp; have := c5.1; omega
    obtain ⟨Z1, e1⟩ : ∃ Z1, Z1 = Z.set (H5.length + 24) (.cells [.int .i64 2, .int .i64 1] .pl) := ⟨_, rfl⟩
    have cZ1 : Chg [H5.length + 24] Z Z1 := by rw [e1]; exact .set _ _ _
    have heq : eqF ap 0 [(0, 2), (1, 3), (2, 3), (3, 3), (4, 2), (5, 2)] [AV.int .i64 2, .int .i64 2, .int .i64 0, .int .i64 1, .int .i64 6, .int .i64 11] [AV.int .i64 2, .int .i64 2, .int .i64 0, .int .i64 1, .int .i64 6, .int .i64 11] = some true := by
      have := @eqOd oB oB
      simpa [oB] using this
    simp [d7_13, q0, q1, q2, rBZ, rAZ, rvZ, eqV, hd24, heq]
    rw [← e1]
    have rv1 := cZ1.row rvZ (by simp; omega)
    have ra1 : rowOf Z1 (H5.length + 24) = some [.int .i64 2, .int .i64 1] := by rw [e1]; simp [rowOf, lt_of_get hd24]
    have hv1 : SL Z1 1 (.slice av 2 cv sv) (ints [2, 1]) := SL.chg ((hv.keep c5).keep cZ) cZ1 (fun i hi => by have := hv.lt i hi; have := c5.1; simp; omega)
    have hw1 : SL Z1 1 (.slice (some (H5.length + 24, 0)) 2 (some 2) 1) (ints [2, 1]) := .at_ _ 0 2 (some 2) [.int .i64 2, .int .i64 1] _ (by omega) ra1 (by simp) (by simp [ints]) (by simp)
    simp [rv1]
    refine Hx.mapp (ints_eq (k := k + 8) hv1 hw1 (by simp) (by simp) (by simp; omega)) ?_
    rintro ⟨r, Z2⟩ ⟨e, d2⟩
    simp only at e d2
    subst e
    have lZ : Z.length = H5.length + 54 := hlZ
    have lZ1 : Z1.length = Z.length := by rw [e1]; simp
    have cHZ1 : Chg [] H3 Z1 := by rw [e1]; exact cXZ.set_new (by omega) _
    have s2 := t2'.keep (c3.tr (cHZ1.tr d2))
    simp
    refine Hx.mapp (opens_ok (k := k + 8) (acc := 2) s2 (by simp) (by simp; omega)) ?_
    rintro ⟨r, Z3⟩ ⟨u3, d3, n3⟩
    simp only at u3 d3 n3
    rw [kn6] at u3
    obtain ⟨x6, y6, z6, ev6⟩ := SP.form u3
    simp only [List.length_cons, List.length_nil, Nat.zero_add] at ev6
    subst ev6
    have hd353 := d3.get (d2.get (cZ1.get hd35 (by simp)) (by simp)) (by simp)
    obtain ⟨Z4, e4⟩ : ∃ Z4, Z4 = Z3.set (H5.length + 35) (.cells [.int .i64 0, .int .i64 6, .int .i64 0] .pl) := ⟨_, rfl⟩
    have cZ4 : Chg [H5.length + 35] Z3 Z4 := by rw [e4]; exact .set _ _ _
    have ra4 : rowOf Z4 (H5.length + 35) = some [.int .i64 0, .int .i64 6, .int .i64 0] := by rw [e4]; simp [rowOf, lt_of_get hd353]
    have hw4 : SP Z4 (.slice (some (H5.length + 35, 0)) 1 (some 1) 3) [⟨0, 6, 0⟩] := .at_ _ 0 1 (some 1) [.int .i64 0, .int .i64 6, .int .i64 0] _ (by omega) ra4 (by simp) (by simp [opsC, Opn.cs]) (by simp)
    have lZ3 : Z1.length ≤ Z3.length := by have := d2.1; have := d3.1; omega
    have u3' : SP Z4 (.slice x6 1 y6 z6) [⟨0, 6, 0⟩] := SL.chg u3 cZ4 (fun i hi => by have := n3 i hi; have := d2.1; simp; omega)
    have k4 := opens_eq (k := k + 8) u3' hw4 (by simp) (by simp) (by simp; omega)
    simp only [List.length_cons, List.length_nil, Nat.zero_add] at k4
    have hd351 := cZ1.get hd35 (by simp)
    have hd352 := d2.get hd351 (by simp)
    simp [hd351, hd352, hd353]
    rw [← e4]
    simp [k4]
    have hd401 := cZ1.get hd40 (by simp)
    have hd402 := d2.get hd401 (by simp)
    have hd403 := d3.get hd402 (by simp)
    have hd404 := cZ4.get hd403 (by simp)
    obtain ⟨Z5, e5⟩ : ∃ Z5, Z5 = Z4.set (H5.length + 40) (.cells [.int .i64 2] .pl) := ⟨_, rfl⟩
    have cZ5 : Chg [H5.length + 40] Z4 Z5 := by rw [e5]; exact .set _ _ _
    have ra5 : rowOf Z5 (H5.length + 40) = some [.int .i64 2] := by rw [e5]; simp [rowOf, lt_of_get hd404]
    have hw5 : SL Z5 1 (.slice (some (H5.length + 40, 0)) 1 (some 1) 1) (ints [2]) := .at_ _ 0 1 (some 1) [.int .i64 2] _ (by omega) ra5 (by simp) (by simp [ints]) (by simp)
    have lH2 : H2.length ≤ H3.length := c3.1
    have nn : ∀ i ∈ blk (AV.slice x2 2 y2 z2), i < H3.length := fun i hi => by have := t2'.lt i hi; omega
    have s5 : SO Z5 (.slice x2 2 y2 z2) [oA, oB] := SL.chg (SL.chg (s2.keep d3) cZ4 (fun i hi => by have := nn i hi; simp; omega)) cZ5 (fun i hi => by have := nn i hi; simp; omega)
    simp [hd401, hd402, hd403, hd404]
    rw [← e5]
    refine Hx.mapp (drop_ok (k := k + 8) s5 hw5 (by simp) (by simp) (by simp; omega)) ?_
    rintro ⟨r, Z6⟩ ⟨u6, d6⟩
    simp only at u6 d6
    rw [kn7] at u6
    obtain ⟨x7, y7, z7, ev7⟩ := SO.form u6
    simp only [List.length_cons, List.length_nil, Nat.zero_add] at ev7
    subst ev7
    have k6 := right_ok (k := k + 8) (s5.keep d6) (by simp) (by simp; omega)
    rw [kn8] at k6
    have k7 := order_ok (k := k + 7) (H := Z6) (o := oA)
    rw [kn9] at k7
    simp only [csA] at k7
    have lA : H.length + 1 < H3.length := by have := c1.1; have := c2.1; have := c3.1; omega
    have rA1 := cZ1.row rAZ (by simp; omega)
    have rA6 := d6.row (cZ5.row (cZ4.row (d3.row (d2.row rA1 (by simp)) (by simp)) (by simp; omega)) (by simp; omega)) (by simp)
    have rows : ∀ {q : Nat} {R : List AV}, q < H5.length → rowOf Z q = some R → rowOf Z1 q = some R ∧ rowOf Z2 q = some R ∧ rowOf Z3 q = some R ∧ rowOf Z4 q = some R ∧ rowOf Z5 q = some R ∧ rowOf Z6 q = some R := fun hq h => by
      have a1 := cZ1.row h (by simp; omega)
      have a2 := d2.row a1 (by simp)
      have a3 := d3.row a2 (by simp)
      have a4 := cZ4.row a3 (by simp; omega)
      have a5 := cZ5.row a4 (by simp; omega)
      exact ⟨a1, a2, a3, a4, a5, d6.row a5 (by simp)⟩
    have lb : b < H5.length := by
      have := t3'.lt b (by simp)
      omega
    obtain ⟨f1, f2, f3, f4, f5, f6⟩ := rows (by omega) rBZ
    obtain ⟨f7, f8, f9, f10, f11, f12⟩ := rows lb q0
    have lH4' : H4.length < H5.length := lt_of_get hd'
    have gd := d6.get (cZ5.get (cZ4.get (d3.get (d2.get (cZ1.get (cZ.get hd' (by simp)) (by simp; omega)) (by simp)) (by simp)) (by simp; omega)) (by simp; omega)) (by simp)
    simp [k6, rA6, k7, f1, f2, f3, f4, f5, f6, f7, f8, f9, f10, f11, f12, q1, q2, gd]
    have lH3 := lHH
    have cH3 : Chg [] H H3 := cG.tr (c1.tr (c2.tr c3))
    have w1 : Chg [] H Z3 := cH3.tr (cHZ1.tr (d2.tr d3))
    have w2 : Chg [] H Z5 := by rw [e5, e4]; exact (w1.set_new (by omega) _).set_new (by omega) _
    exact (w2.tr d6).set_new (by omega) _
  · rintro x X hx hE hd
    exact hE.elim
end
end Go.Proofs.Ytpinfljbccjbkaa.T.Qu
end
