import Derived.Test.YtdhedlkfpdakpaaD3
import Derived.WalkKit
/-! Configs that are drawn. -/
set_option linter.unusedVariables false
set_option linter.unusedSimpArgs false
set_option maxHeartbeats 4000000
set_option maxRecDepth 100000
namespace Go.Proofs.Ytdhedlkfpdakpaa.T
open Go Go.Ab
/-- A config under way: at block a the answer's cells, one behind them the config's; v its instruments. -/
structure CS (H0 H : AH) (p a n : Nat) (v : AV) (tl : List AV) (l : List I4) : Prop where
  dk : Dk H p n
  row2 : H[a]? = some (.cells [.slice none 0 (some 0) 0, .int .i64 0, .int .i64 0, .int .i64 0, .int .i64 0, .int .i64 0, .int .i64 0] .rw)
  row3 : H[a + 1]? = some (.cells (v :: tl) .rw)
  mine : Mine H 4 v (insC l)
  new : ∀ b ∈ blk v, a + 2 ≤ b
  lt : p < a
  le : a = H0.length
  chg : Chg [p] H0 H
section
variable {k p a n : Nat} {H0 H H' : AH} {v : AV} {tl : List AV} {l : List I4}
theorem CS.len (h : CS H0 H p a n v tl l) : a + 1 < H.length := lt_of_get h.row3
theorem CS.keep (h : CS H0 H p a n v tl l) (c : Chg [] H H') : CS H0 H' p a n v tl l :=
  ⟨h.dk.keep c, c.get h.row2 (by simp), c.get h.row3 (by simp), h.mine.keep c, h.new, h.lt, h.le, h.chg.tr c⟩
theorem CS.drawn {m : Nat} (h : CS H0 H p a n v tl l) (d : Dk H' p m) (c : Chg [p] H H') : CS H0 H' p a m v tl l :=
  have hl := h.lt
  ⟨d, c.get h.row2 (by simp; omega), c.get h.row3 (by simp; omega), h.mine.chg c (fun b hb => by have := h.new b hb; simp; omega), h.new, h.lt, h.le, h.chg.tr' c⟩
theorem CS.out (h : CS H0 H p a n v tl l) {m : Nat} {A : AB} (hm : a + 2 ≤ m) (hv : m ∉ blk v) : CS H0 (H.set m A) p a n v tl l := by
  have hl := h.lt
  have c := Chg.set H m A
  have hle := h.le
  exact ⟨h.dk.chg c (by simp; omega), c.get h.row2 (by simp; omega), c.get h.row3 (by simp; omega), h.mine.chg c (fun b hb e => by simp at e; exact hv (e ▸ hb)), h.new, h.lt, h.le, h.chg.trans c (by simp; omega)⟩
theorem CS.up (h : CS H0 H p a n v tl l) {m : Nat} (hm : n ≤ m) : CS H0 H p a m v tl l := ⟨h.dk.more hm, h.row2, h.row3, h.mine, h.new, h.lt, h.le, h.chg⟩
/-- The config's cells are turned. -/
theorem CS.turn (h : CS H0 H p a n v tl l) (tl' : List AV) : CS H0 (H.set (a + 1) (.cells (v :: tl') .rw)) p a n v tl' l := by
  have hl := h.lt
  have hb := h.len
  have hle := h.le
  have c := Chg.set H (a + 1) (.cells (v :: tl') .rw)
  exact ⟨h.dk.chg c (by simp; omega), c.get h.row2 (by simp), by rw [List.getElem?_set_self hb], h.mine.chg c (fun b hb => by have := h.new b hb; simp; omega), h.new, h.lt, h.le, h.chg.trans c (by simp; omega)⟩
/-- One instrument more. -/
theorem CS.put (h : CS H0 H p a n v tl l) {v' : AV} {x : I4} (m : Mine H' 4 v' (insC (l ++ [x]))) (c : Chg (blk v) H H') (hk : ∀ b ∈ blk v', b ∈ blk v ∨ H.length ≤ b) :
    CS H0 (H'.set (a + 1) (.cells (v' :: tl) .rw)) p a n v' tl (l ++ [x]) := by
  have hl := h.lt
  have hb := h.len
  have hle := h.le
  have hn : ∀ b ∈ blk v', a + 2 ≤ b := fun b hb => (hk b hb).elim (h.new b) (fun e => by omega)
  have d := h.dk.chg c (fun b hb => by have := h.new b hb; omega)
  have r2 := c.get h.row2 (fun hb => by have := h.new _ hb; omega)
  have r3 := c.get h.row3 (fun hb => by have := h.new _ hb; omega)
  have c2 := Chg.set H' (a + 1) (.cells (v' :: tl) .rw)
  refine ⟨d.chg c2 (by simp; omega), c2.get r2 (by simp), by rw [List.getElem?_set_self (lt_of_get r3)], m.chg c2 (fun b hb => by have := hn b hb; simp; omega), hn, h.lt, h.le, ?_⟩
  exact (h.chg.trans c (fun b hb => by have := h.new b hb; exact .inr (by omega))).trans c2 (by simp; omega)
theorem insC_snoc (l : List I4) (x : I4) : insC (l ++ [x]) = insC l ++ x.cs := by simp [insC]
theorem config_ok (h : Dk H p n) (hn : n ≤ 1000) : Hx (callA ap (k + 20) (.func 18 [] []) [.ptr (some (p, 0))] 0 H) fun r =>
    ∃ v c, r.1 = .agg (Cf.cs c v) ∧ Mine r.2 4 v (insC c.ins) ∧ rightC c = true ∧ FitC c ∧ Dk r.2 p (n + 100) ∧ Chg [p] H r.2 ∧ ∀ b ∈ blk v, H.length ≤ b := by
  rw [hx_go fn18 rfl, b18]
  simp [f18, b18]
  have cs0 : CS H (H ++ [.cells [.slice none 0 (some 0) 0, .int .i64 0, .int .i64 0, .int .i64 0, .int .i64 0, .int .i64 0, .int .i64 0] .rw, .cells [.slice none 0 (some 0) 0, .int .i64 0, .int .i64 0, .int .i64 0, .int .i64 0, .int .i64 0, .int .i64 0] .rw]) p H.length n (.slice none 0 (some 0) 0) [.int .i64 0, .int .i64 0, .int .i64 0, .int .i64 0, .int .i64 0, .int .i64 0] [] :=
    ⟨h.keep (.app _ _), by simp, by simp, .nil _ _, by simp, h.lt, rfl, .app _ _⟩
  refine Hx.mapp (n_ok cs0.dk (by omega) (m := 4) (by omega) (by omega)) ?_
  rintro ⟨r, H1⟩ ⟨x, e, hx, hd, c⟩
  simp only at e hd c
  subst e
  have cs1 := cs0.drawn hd c
  obtain ⟨j0, hj0⟩ : ∃ j0 : Nat, 1 + x = j0 := ⟨(1 + x).toNat, by omega⟩
  have hw : IntKind.i64.wrap (1 + x) = j0 := by rw [wrap_i64 (by omega) (by omega)]; exact hj0
  simp [hw]
  clear cs0
  refine hx_down (fun j s => ∃ H' v l, s = ⟨sp 71 [(0, .ptr (some (p, 0))), (2, .ptr (some (H.length, 0))), (3, .ptr (some (H.length + 1, 0))), (4, .int .i64 j)], H', []⟩ ∧ CS H H' p H.length (n + 1 + 9 * l.length) v [.int .i64 0, .int .i64 0, .int .i64 0, .int .i64 0, .int .i64 0, .int .i64 0] l ∧ l.length + j = j0 ∧ l.all rightI = true) (j := j0) ?_ (by omega) ⟨H1, _, [], rfl, by simpa using cs1, by simp, rfl⟩
  rintro j _ ⟨H', v, l, rfl, cs, hl, hq⟩
  clear cs1 hd c
  cases j with
  | zero =>
    have hl4 : 1 ≤ l.length ∧ l.length ≤ 4 := by omega
    obtain ⟨va, vn, vc, vs, rfl, -⟩ := cs.mine.sl.form
    clear hw hj0 hx
    simp
    refine Hx.mapp (n_ok cs.dk (by omega) (m := 300) (by omega) (by omega)) ?_
    rintro ⟨r, H1⟩ ⟨x1, e, hx1, hd, c⟩
    simp only at e hd c
    subst e
    replace cs := cs.drawn hd c
    clear hd c
    simp
    refine Hx.mapp (n_ok cs.dk (by omega) (m := 5) (by omega) (by omega)) ?_
    rintro ⟨r, H2⟩ ⟨x2, e, hx2, hd, c⟩
    simp only at e hd c
    subst e
    replace cs := cs.drawn hd c
    clear hd c
    have q0 := rowRw_rw cs.row3
    have q1 := rowRw_rw (cs.turn [.int .i64 x1, .int .i64 0, .int .i64 0, .int .i64 0, .int .i64 0, .int .i64 0]).row3
    replace cs := cs.turn [.int .i64 x1, .int .i64 x2, .int .i64 0, .int .i64 0, .int .i64 0, .int .i64 0]
    simp [q0, q1]
    clear q0 q1
    refine Hx.mapp (n_ok cs.dk (by omega) (m := 3) (by omega) (by omega)) ?_
    rintro ⟨r, H3⟩ ⟨x3, e, hx3, hd, c⟩
    simp only at e hd c
    subst e
    replace cs := cs.drawn hd c
    clear hd c
    simp
    refine Hx.mapp (n_ok cs.dk (by omega) (m := 3) (by omega) (by omega)) ?_
    rintro ⟨r, H4⟩ ⟨x4, e, hx4, hd, c⟩
    simp only at e hd c
    subst e
    replace cs := cs.drawn hd c
    clear hd c
    have q0 := rowRw_rw cs.row3
    have q1 := rowRw_rw (cs.turn [.int .i64 x1, .int .i64 x2, .int .i64 x3, .int .i64 0, .int .i64 0, .int .i64 0]).row3
    replace cs := cs.turn [.int .i64 x1, .int .i64 x2, .int .i64 x3, .int .i64 x4, .int .i64 0, .int .i64 0]
    simp [q0, q1]
    clear q0 q1
    refine Hx.mapp (n_ok cs.dk (by omega) (m := 20) (by omega) (by omega)) ?_
    rintro ⟨r, H5⟩ ⟨x5, e, hx5, hd, c⟩
    simp only at e hd c
    subst e
    replace cs := cs.drawn hd c
    clear hd c
    have hw5 : IntKind.i64.wrap (1 + x5) = 1 + x5 := wrap_i64 (by omega) (by omega)
    simp [hw5]
    refine Hx.mapp (n_ok cs.dk (by omega) (m := 100) (by omega) (by omega)) ?_
    rintro ⟨r, H6⟩ ⟨x6, e, hx6, hd, c⟩
    simp only at e hd c
    subst e
    replace cs := cs.drawn hd c
    clear hd c
    have q0 := rowRw_rw cs.row3
    have q1 := rowRw_rw (cs.turn [.int .i64 x1, .int .i64 x2, .int .i64 x3, .int .i64 x4, .int .i64 (1 + x5), .int .i64 0]).row3
    replace cs := cs.turn [.int .i64 x1, .int .i64 x2, .int .i64 x3, .int .i64 x4, .int .i64 (1 + x5), .int .i64 x6]
    simp [q0, q1]
    clear q0 q1
    refine Hx.mapp (yes_ok cs.dk (by omega) (m := 15) (by omega) (by omega)) ?_
    rintro ⟨r, H7⟩ ⟨b1, e, hd, c⟩
    simp only at e hd c
    subst e
    replace cs := cs.drawn hd c
    clear hd c
    have hv1 : (AV.slice va vn vc vs).one = true := rfl
    generalize AV.slice va vn vc vs = v at *
    have fin : ∀ {G : AH} {y : Int} {A : AB}, CS H G p H.length (n + 100) v [.int .i64 y, .int .i64 x2, .int .i64 x3, .int .i64 x4, .int .i64 (1 + x5), .int .i64 x6] l → 0 ≤ y ∧ y ≤ 9223372036854775807 →
        ∃ v' c, [v, .int .i64 y, .int .i64 x2, .int .i64 x3, .int .i64 x4, .int .i64 (1 + x5), .int .i64 x6] = Cf.cs c v' ∧ Mine (G.set H.length A) 4 v' (insC c.ins) ∧ rightC c = true ∧ FitC c ∧ Dk (G.set H.length A) p (n + 100) ∧ Chg [p] H (G.set H.length A) ∧ ∀ b ∈ blk v', H.length ≤ b := fun {G y A} g hy => by
      have hlt := g.lt
      have cc := Chg.set G H.length A
      refine ⟨v, ⟨l, y, x2, x3, x4, 1 + x5, x6⟩, rfl, g.mine.chg cc (fun b hb => by have := g.new b hb; simp; omega), ?_, ⟨⟨by simp only; omega, by simp only; omega⟩, ⟨by simp only; omega, by simp only; omega⟩⟩, g.dk.chg cc (by simp; omega), g.chg.trans cc (by simp), fun b hb => by have := g.new b hb; omega⟩
      simp only [rightC, rightR, hq, inB]
      simp
      omega
    cases b1 with
    | true =>
      simp
      refine Hx.mapp (some_ok cs.dk (by omega)) ?_
      rintro ⟨r, H8⟩ ⟨y, e, hy, hd, c⟩
      simp only at e hd c
      subst e
      replace cs := cs.drawn hd c
      clear hd c
      have q0 := rowRw_rw cs.row3
      replace cs := (cs.turn [.int .i64 y, .int .i64 x2, .int .i64 x3, .int .i64 x4, .int .i64 (1 + x5), .int .i64 x6]).up (m := n + 100) (by omega)
      have q2 := rowRw_rw cs.row2
      have q3 := rowOf_rw cs.row3
      simp [q0, q2, q3, hv1, rowOf_self (lt_of_get cs.row2)]
      exact fin cs hy
    | false =>
      replace cs := cs.up (m := n + 100) (by omega)
      have q2 := rowRw_rw cs.row2
      have q3 := rowOf_rw cs.row3
      simp [q2, q3, hv1, rowOf_self (lt_of_get cs.row2)]
      exact fin cs ⟨by omega, by omega⟩
  | succ j =>
    have hwj : IntKind.i64.wrap (j : Int) = (j : Int) := wrap_i64 (by omega) (by omega)
    simp
    have hnb : n + 1 + 9 * l.length ≤ 2000 := by omega
    refine Hx.mapp (n_ok cs.dk (by omega) (m := 3) (by omega) (by omega)) ?_
    rintro ⟨r, H1⟩ ⟨x1, e, hx1, hd, c⟩
    simp only at e hd c
    subst e
    replace cs := cs.drawn hd c
    clear hd c
    simp
    refine Hx.mapp (n_ok cs.dk (by omega) (m := 300) (by omega) (by omega)) ?_
    rintro ⟨r, H2⟩ ⟨x2, e, hx2, hd, c⟩
    simp only at e hd c
    subst e
    replace cs := cs.drawn hd c
    clear hd c
    have hw2 : IntKind.i64.wrap (1 + x2) = 1 + x2 := wrap_i64 (by omega) (by omega)
    simp [hw2]
    refine Hx.mapp (n_ok cs.dk (by omega) (m := 12) (by omega) (by omega)) ?_
    rintro ⟨r, H3⟩ ⟨x3, e, hx3, hd, c⟩
    simp only at e hd c
    subst e
    replace cs := cs.drawn hd c
    clear hd c
    simp
    refine Hx.mapp (n_ok cs.dk (by omega) (m := 6) (by omega) (by omega)) ?_
    rintro ⟨r, H4⟩ ⟨x4, e, hx4, hd, c⟩
    simp only at e hd c
    subst e
    replace cs := cs.drawn hd c
    clear hd c
    simp
    obtain ⟨H5, e5⟩ : ∃ H5, H5 = H4 ++ [.cells [.int .i64 x1, .int .i64 (1 + x2), .int .i64 x3, .int .i64 x4] .rw] := ⟨_, rfl⟩
    obtain ⟨m5, hm5⟩ : ∃ m5, m5 = H4.length := ⟨_, rfl⟩
    have g5 : H5[m5]? = some (.cells [.int .i64 x1, .int .i64 (1 + x2), .int .i64 x3, .int .i64 x4] .rw) := by rw [e5, hm5]; simp
    have hv5 : m5 ∉ blk v := fun hb => by have := cs.mine.lt _ hb; omega
    have hl5 : H.length + 2 ≤ m5 := by have := cs.len; omega
    have hlp := cs.lt
    replace cs := cs.keep (H' := H5) (by rw [e5]; exact .app _ _)
    rw [← e5, ← hm5]
    clear e5 hm5
    refine Hx.mapp (yes_ok cs.dk (by omega) (m := 12) (by omega) (by omega)) ?_
    rintro ⟨r, H6⟩ ⟨b1, e, hd, c⟩
    simp only at e hd c
    subst e
    replace cs := cs.drawn hd c
    replace g5 := c.get g5 (by simp; omega)
    clear hd c
    cases b1
    case' true =>
      simp
      refine Hx.mapp (some_ok cs.dk (by omega)) ?_
      rintro ⟨r, H7⟩ ⟨x5, e, hx5, hd, c⟩
      simp only at e hd c
      subst e
      replace cs := cs.drawn hd c
      replace g5 := c.get g5 (by simp; omega)
      clear hd c
      have ht5 : x5.tmod 1000000000000 = x5 % 1000000000000 := Int.tmod_eq_emod_of_nonneg hx5.1
      have hw5 : IntKind.i64.wrap (1 + x5 % 1000000000000) = 1 + x5 % 1000000000000 := wrap_i64 (by omega) (by omega)
      simp [ht5, hw5, rowRw_rw g5]
      obtain ⟨y2, hy2, hy3⟩ : ∃ y, y = 1 + x5 % 1000000000000 ∧ 1 ≤ y ∧ y ≤ 1000000000000 := ⟨_, rfl, by omega⟩
      rw [← hy2]
      obtain ⟨Hq, eq⟩ : ∃ Hq, Hq = H7.set m5 (.cells [.int .i64 x1, .int .i64 y2, .int .i64 x3, .int .i64 x4] .rw) := ⟨_, rfl⟩
      replace g5 : Hq[m5]? = some (.cells [.int .i64 x1, .int .i64 y2, .int .i64 x3, .int .i64 x4] .rw) := by rw [eq]; exact List.getElem?_set_self (lt_of_get g5)
      replace cs := cs.out (A := .cells [.int .i64 x1, .int .i64 y2, .int .i64 x3, .int .i64 x4] .rw) hl5 hv5
      rw [← eq] at cs ⊢
      replace cs := cs.up (m := n + 1 + 9 * l.length + 6) (by omega)
      clear hx5 ht5 hw5 eq hy2
    case' false =>
      simp
      obtain ⟨y2, hy2, hy3⟩ : ∃ y, y = 1 + x2 ∧ 1 ≤ y ∧ y ≤ 1000000000000 := ⟨_, rfl, by omega⟩
      rw [← hy2] at g5 ⊢
      obtain ⟨Hq, eq⟩ : ∃ Hq, Hq = H6 := ⟨_, rfl⟩
      rw [← eq] at g5 cs ⊢
      replace cs := cs.up (m := n + 1 + 9 * l.length + 6) (by omega)
      clear eq hy2
    all_goals
      refine Hx.mapp (yes_ok cs.dk (by omega) (m := 12) (by omega) (by omega)) ?_
      rintro ⟨r, H8⟩ ⟨b2, e, hd, c⟩
      simp only at e hd c
      subst e
      replace cs := cs.drawn hd c
      replace g5 := c.get g5 (by simp; omega)
      clear hd c
      cases b2
      case' true =>
        simp
        refine Hx.mapp (some_ok cs.dk (by omega)) ?_
        rintro ⟨r, H9⟩ ⟨x6, e, hx6, hd, c⟩
        simp only at e hd c
        subst e
        replace cs := cs.drawn hd c
        replace g5 := c.get g5 (by simp; omega)
        clear hd c
        simp
        refine Hx.mapp (some_ok cs.dk (by omega)) ?_
        rintro ⟨r, H10⟩ ⟨x7, e, hx7, hd, c⟩
        simp only at e hd c
        subst e
        replace cs := cs.drawn hd c
        replace g5 := c.get g5 (by simp; omega)
        clear hd c
        have ht6 : x6.tmod 1000000001 = x6 % 1000000001 := Int.tmod_eq_emod_of_nonneg hx6.1
        have ht7 : x7.tmod 1000000001 = x7 % 1000000001 := Int.tmod_eq_emod_of_nonneg hx7.1
        have gs := List.getElem?_set_self (a := AB.cells [.int .i64 x1, .int .i64 y2, .int .i64 (x6 % 1000000001), .int .i64 x4] .rw) (lt_of_get g5)
        obtain ⟨Hr, er⟩ : ∃ Hr, Hr = H10.set m5 (.cells [.int .i64 x1, .int .i64 y2, .int .i64 (x6 % 1000000001), .int .i64 (x7 % 1000000001)] .rw) := ⟨_, rfl⟩
        have g5' : Hr[m5]? = some (.cells [.int .i64 x1, .int .i64 y2, .int .i64 (x6 % 1000000001), .int .i64 (x7 % 1000000001)] .rw) := by rw [er]; exact List.getElem?_set_self (lt_of_get g5)
        have cs' := (cs.out (A := .cells [.int .i64 x1, .int .i64 y2, .int .i64 (x6 % 1000000001), .int .i64 (x7 % 1000000001)] .rw) hl5 hv5).up (m := n + 1 + 9 * l.length + 9) (by omega)
        rw [← er] at cs'
        simp [ht6, ht7, rowRw_rw g5, rowRw_rw gs]
        rw [← er]
        obtain ⟨y3, hy4, hy5⟩ : ∃ y, y = x6 % 1000000001 ∧ 0 ≤ y ∧ y ≤ 1000000000 := ⟨_, rfl, by omega⟩
        obtain ⟨y4, hy6, hy7⟩ : ∃ y, y = x7 % 1000000001 ∧ 0 ≤ y ∧ y ≤ 1000000000 := ⟨_, rfl, by omega⟩
        rw [← hy4, ← hy6] at g5' ⊢
        clear gs ht6 ht7 hx6 hx7 er cs g5 hy4 hy6
      case' false =>
        simp
        obtain ⟨y3, hy4, hy5⟩ : ∃ y, y = x3 ∧ 0 ≤ y ∧ y ≤ 1000000000 := ⟨_, rfl, by omega⟩
        obtain ⟨y4, hy6, hy7⟩ : ∃ y, y = x4 ∧ 0 ≤ y ∧ y ≤ 1000000000 := ⟨_, rfl, by omega⟩
        obtain ⟨Hr, er⟩ : ∃ Hr, Hr = H8 := ⟨_, rfl⟩
        have g5' := g5
        have cs' := cs.up (m := n + 1 + 9 * l.length + 9) (by omega)
        rw [← er] at g5' cs' ⊢
        rw [← hy4, ← hy6] at g5'
        clear er hy4 hy6 cs g5
    all_goals
      have hxr : rightI ⟨x1, y2, y3, y4⟩ = true := by simp [rightI, inB]; omega
      have hcs : (I4.cs ⟨x1, y2, y3, y4⟩) = [.int .i64 x1, .int .i64 y2, .int .i64 y3, .int .i64 y4] := rfl
      simp [rowOf_rw cs'.row3, rowOf_rw g5']
      have ck := cs'.keep (Chg.app Hr [.cells [.int .i64 x1, .int .i64 y2, .int .i64 y3, .int .i64 y4] .rw])
      have sl : SL (Hr ++ [.cells [.int .i64 x1, .int .i64 y2, .int .i64 y3, .int .i64 y4] .rw]) 4 (.slice (some (Hr.length, 0)) 1 (some 1) 4) (I4.cs ⟨x1, y2, y3, y4⟩) := SL.mk (by omega) (by simp [hcs]) (by simp [hcs]) (by simp)
      refine Hx.mapp (ck.mine.append sl (by omega) (by omega) (by simp [hcs]) (by simp [hcs]; unfold room; omega)) ?_
      rintro ⟨v2, H12⟩ ⟨m2, c2, k2⟩
      simp only at m2 c2 k2
      rw [← insC_snoc] at m2
      have hnw := ck.new
      have r3 := c2.get ck.row3 (fun hb => by have := hnw _ hb; omega)
      have cp := ck.put m2 c2 k2
      obtain ⟨va, vn, vc, vs, rfl, -⟩ := m2.sl.form
      simp [rowRw_rw r3, hwj]
      refine ⟨j, by omega, _, rfl, _, l ++ [⟨x1, y2, y3, y4⟩], cp.up (by simp; omega), by simp; omega, ?_⟩
      exact List.all_eq_true.1 (by rw [List.all_append, hq]; simp [hxr])
end
end Go.Proofs.Ytdhedlkfpdakpaa.T
