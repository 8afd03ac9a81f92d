import Derived.Test.YtndgfpknegoleaaC2
/-! Configs: what a bucket has. -/
set_option linter.unusedVariables false
set_option linter.unusedSimpArgs false
set_option maxHeartbeats 4000000
set_option maxRecDepth 100000
namespace Go.Proofs.Ytndgfpknegoleaa.T
open Go Go.Ab
/-- The places of a bucket's instruments. -/
def bk (n : Int) : Nat → List I4 → List Int
  | _, [] => []
  | i, x :: r => if x.b = n then (i : Int) :: bk n (i + 1) r else bk n (i + 1) r
theorem bk_snoc (n : Int) (x : I4) : ∀ (l : List I4) (i : Nat), bk n i (l ++ [x]) = bk n i l ++ (if x.b = n then [((i + l.length : Nat) : Int)] else [])
  | [], i => by simp [bk]
  | y :: l, i => by
    simp only [List.cons_append, bk, bk_snoc n x l (i + 1), List.length_cons]
    rw [show i + 1 + l.length = i + (l.length + 1) by omega]
    split <;> simp
theorem bk_take {n : Int} {l : List I4} {i : Nat} (hi : i < l.length) : bk n 0 (l.take (i + 1)) = bk n 0 (l.take i) ++ (if l[i].b = n then [(i : Int)] else []) := by
  rw [List.take_add_one, List.getElem?_eq_getElem hi]
  simp only [Option.toList_some, bk_snoc]
  rw [List.length_take, Nat.min_eq_left (by omega), Nat.zero_add]
theorem bk_le (n : Int) : ∀ (l : List I4) (i : Nat), (bk n i l).length ≤ l.length
  | [], i => by simp [bk]
  | y :: l, i => by
    have := bk_le n l (i + 1)
    simp only [bk]
    split
    · simp; omega
    · simp; omega
def bkC (c : Cf) (n : Int) : List Int := if rightC c then bk n 0 c.ins else []
theorem sn_new {H X : AH} {cs : List Int} {n : Nat} {c : Option Nat} (hX : X = H ++ [.cells (i64s cs) .rw]) (hn : n = cs.length) (h4 : ∀ k, c = some k → n ≤ k) : SN X (.slice (some (H.length, 0)) n c 1) cs := by
  subst hX hn
  exact SL.mk Nat.one_pos (rowOf_rw (by simp)) (by simp) h4
/-- An own, new slice of ints. -/
def NewN (H H' : AH) (v : AV) (l : List Int) : Prop := Mine H' 1 v (i64s l) ∧ Chg [] H H' ∧ ∀ i ∈ blk v, H.length ≤ i
theorem NewN.to {H0 H H' : AH} {v v' : AV} {bs cs : List Int} (h : NewN H0 H v bs) (m : Mine H' 1 v' (i64s cs)) (c : Chg (blk v) H H') (k : ∀ i ∈ blk v', i ∈ blk v ∨ H.length ≤ i) : NewN H0 H' v' cs :=
  ⟨m, h.2.1.trans c (fun i hi => .inr (h.2.2 i hi)), fun i hi => (k i hi).elim (h.2.2 i) (fun e => Nat.le_trans h.2.1.1 e)⟩
theorem NewN.keep {H0 H H' : AH} {v : AV} {bs : List Int} (h : NewN H0 H v bs) (c : Chg [] H H') : NewN H0 H' v bs := ⟨h.1.keep c, h.2.1.tr c, h.2.2⟩
theorem NewN.back {H0 H1 H : AH} {v : AV} {bs : List Int} (h : NewN H1 H v bs) (c : Chg [] H0 H1) : NewN H0 H v bs := ⟨h.1, c.tr h.2.1, fun i hi => Nat.le_trans c.1 (h.2.2 i hi)⟩
theorem NewN.push {H0 H HH : AH} {x y : AV} {l zs : List Int} (h : NewN H0 H x l) (hy : SN HH y zs) (c : Chg [] H HH) (hr : (l.length + zs.length) * 8 ≤ room) : Hx (aappend 0 HH 1 8 x y) fun r => NewN H0 r.2 r.1 (l ++ zs) := by
  have g := h.keep c
  refine (g.1.append hy Nat.one_pos (by omega) i64s_one (by simpa using hr)).mono ?_
  rintro ⟨r, H2⟩ ⟨m, c2, k2⟩
  rw [← i64s_app] at m
  exact g.to m c2 k2
section
variable {k : Nat} {H : AH} {v w : AV}
theorem bucket_ok {c : Cf} {n : Int} (h : SI H v c.ins) (hl : c.ins.length ≤ 1000000) (hk : c.ins.length + 30 < k) : Hx (callA ap k (.func 16 [] []) [.agg (c.cs v), .int .i64 n] 0 H) fun r => NewN H r.2 r.1 (bkC c n) := by
  obtain ⟨k, rfl⟩ : ∃ k', k = k' + 1 := ⟨k - 1, by omega⟩
  rw [hx_call fn16 rfl]
  simp [f16, b16, Cf.cs]
  obtain ⟨H1, e1⟩ : ∃ H1, H1 = H ++ [.cells (c.cs v) .rw] := ⟨_, rfl⟩
  have c1 : Chg [] H H1 := by rw [e1]; exact .app _ _
  have g1 : H1[H.length]? = some (.cells (c.cs v) .rw) := by rw [e1]; simp
  have hcs : [v, AV.int .i64 c.skin, AV.int .i64 c.times, AV.int .i64 c.port, AV.int .i64 c.bid, AV.int .i64 c.lot, AV.int .i64 c.hmin] = c.cs v := rfl
  rw [hcs, ← e1]
  refine Hx.mapp (right_ok (h.keep c1) hl (by omega)) ?_
  rintro ⟨r, H2⟩ ⟨e, c2⟩
  simp only at e c2
  subst e
  have g2 := rowOf_rw (c2.get g1 (by simp))
  have c3 := c1.tr c2
  have h2 := h.keep c3
  obtain ⟨a, cp, s, rfl⟩ := h.form
  simp only [Cf.cs] at g2
  clear hcs g1
  cases hr : rightC c with
  | false =>
    simp [bkC, hr]
    exact ⟨.nil _ _, c3, by simp⟩
  | true =>
    simp [g2, bkC, hr]
    refine hx_up (fun i s' => ∃ H' x, s' = ⟨sp 29 [(1, .int .i64 n), (5, x), (12, .slice a c.ins.length cp s), (13, .int .i64 c.ins.length), (14, .int .i64 i)], H', []⟩ ∧ NewN H2 H' x (bk n 0 (c.ins.take i))) c.ins.length ?_ ?_ (by omega) ⟨H2, _, rfl, .nil _ _, .refl, by simp⟩
    · rintro i _ hi ⟨H', x, rfl, hx⟩
      have hw : IntKind.i64.wrap ((i : Int) + 1) = ((i + 1 : Nat) : Int) := by rw [wrap_i64 (by omega) (by omega)]; omega
      obtain ⟨b0, o0, c0, r0, e0, g0, g3, g4, -⟩ := SI.get (h2.keep hx.2.1) (get_d hi)
      injection e0 with z1 z2 z3 z4
      subst z1 z3 z4
      have ht := bk_take (n := n) hi
      have hle := bk_le n (c.ins.take i) 0
      rw [List.length_take, Nat.min_eq_left (by omega)] at hle
      generalize c.ins[i] = p at *
      simp only [I4.cs] at g4
      have hx1 : NewN H2 (H' ++ [.cells [.int .i64 p.b, .int .i64 p.p, .int .i64 p.r, .int .i64 p.s] .rw]) x (bk n 0 (c.ins.take i)) := hx.keep (.app _ _)
      by_cases he : p.b = n
      · simp [hi, g0, g3, g4, he]
        have sn : SN (H' ++ [.cells [.int .i64 n, .int .i64 p.p, .int .i64 p.r, .int .i64 p.s] .rw, .cells [.int .i64 (i : Int)] .rw]) (.slice (some (H'.length + 1, 0)) 1 (some 1) 1) [(i : Int)] := .at_ _ 0 1 _ [.int .i64 (i : Int)] _ Nat.one_pos (by simp) (by simp) (by simp [i64s]) (by simp)
        refine Hx.mapp (hx.push sn (.app _ _) (by simp; unfold room; omega)) ?_
        rintro ⟨y, H3⟩ hy
        rw [if_pos he] at ht
        rw [← ht] at hy
        simp [hw]
        exact ⟨H3, y, rfl, hy⟩
      · simp [hi, g0, g3, g4, he, hw]
        exact ⟨_, x, rfl, by rw [ht, if_neg he, List.append_nil]; exact hx1⟩
    · rintro _ ⟨H', x, rfl, hx⟩
      rw [List.take_length] at hx
      simp
      exact hx.back c3
theorem rbucket_ok {c : Cf} {n : Int} (h : SI H v c.ins) (hl : c.ins.length ≤ 1000000) (hk : c.ins.length + 30 < k) : Hx (callA ap k (.func 17 [] []) [.agg (c.cs v), .int .i64 n] 0 H) fun r => NewN H r.2 r.1 (bkC c n) := by
  obtain ⟨k, rfl⟩ : ∃ k', k = k' + 1 := ⟨k - 1, by omega⟩
  rw [hx_call fn17 rfl]
  simp [f17, b17, Cf.cs]
  obtain ⟨H1, e1⟩ : ∃ H1, H1 = H ++ [.cells (c.cs v) .rw] := ⟨_, rfl⟩
  have c1 : Chg [] H H1 := by rw [e1]; exact .app _ _
  have g1 : H1[H.length]? = some (.cells (c.cs v) .rw) := by rw [e1]; simp
  have hcs : [v, AV.int .i64 c.skin, AV.int .i64 c.times, AV.int .i64 c.port, AV.int .i64 c.bid, AV.int .i64 c.lot, AV.int .i64 c.hmin] = c.cs v := rfl
  rw [hcs, ← e1]
  refine Hx.mapp (rright_ok (h.keep c1) hl (by omega)) ?_
  rintro ⟨r, H2⟩ ⟨e, c2⟩
  simp only at e c2
  subst e
  have g1 := c2.get g1 (by simp)
  have c3 := c1.tr c2
  have h2 := h.keep c3
  obtain ⟨a, cp, s, rfl⟩ := h.form
  simp only [Cf.cs] at g1
  clear hcs
  cases hr : rightC c with
  | false =>
    simp [bkC, hr]
    exact ⟨.nil _ _, c3, by simp⟩
  | true =>
    simp [bkC, hr]
    refine hx_up (fun i s' => ∃ H' x, s' = ⟨sp 31 [(1, .int .i64 n), (2, .ptr (some (H.length, 0))), (5, x), (6, .int .i64 i)], H', []⟩ ∧ NewN H2 H' x (bk n 0 (c.ins.take i))) c.ins.length ?_ ?_ (by omega) ⟨H2, _, rfl, .nil _ _, .refl, by simp⟩
    · rintro i _ hi ⟨H', x, rfl, hx⟩
      have hw : IntKind.i64.wrap ((i : Int) + 1) = ((i + 1 : Nat) : Int) := by rw [wrap_i64 (by omega) (by omega)]; omega
      have g2 := rowOf_rw (hx.2.1.get g1 (by simp))
      obtain ⟨b0, o0, c0, r0, e0, g0, g3, -, g4⟩ := SI.get (h2.keep hx.2.1) (get_d hi)
      injection e0 with z1 z2 z3 z4
      subst z1 z3 z4
      have g4 := g4 0 (by omega)
      have ht := bk_take (n := n) hi
      have hle := bk_le n (c.ins.take i) 0
      rw [List.length_take, Nat.min_eq_left (by omega)] at hle
      generalize c.ins[i] = p at *
      simp [I4.cs] at g4
      by_cases he : p.b = n
      · simp [hi, g0, g2, g3, g4, he]
        refine Hx.mapp (hx.push (sn_new (H := H') (cs := [(i : Int)]) (n := 1) (c := some 1) (by simp [i64s]) rfl (by simp)) (.app _ _) (by simp; unfold room; omega)) ?_
        rintro ⟨y, H3⟩ hy
        rw [if_pos he] at ht
        rw [← ht] at hy
        simp [hw]
        exact ⟨H3, y, rfl, hy⟩
      · simp [hi, g0, g2, g3, g4, he, hw]
        exact ⟨_, x, rfl, by rw [ht, if_neg he, List.append_nil]; exact hx⟩
    · rintro _ ⟨H', x, rfl, hx⟩
      rw [List.take_length] at hx
      have g2 := rowOf_rw (hx.2.1.get g1 (by simp))
      simp [g2]
      exact hx.back c3
end
end Go.Proofs.Ytndgfpknegoleaa.T
