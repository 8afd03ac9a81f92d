import Derived.Test.YtdhedlkfpdakpaaE1
/-! Decks: numbers that are drawn. Nothing is told of them but their bounds. -/
set_option linter.unusedVariables false
set_option linter.unusedSimpArgs false
set_option maxHeartbeats 4000000
set_option maxRecDepth 100000
namespace Go.Proofs.Ytdhedlkfpdakpaa.T
open Go Go.Ab
def U64 (n : Int) : Prop := 0 ≤ n ∧ n < 18446744073709551616
def u64s (l : List Int) : List AV := l.map (AV.int .u64)
@[simp] theorem u64s_len {l : List Int} : (u64s l).length = l.length := by simp [u64s]
/-- A deck, of which at most n numbers were drawn. -/
def Dk (H : AH) (p n : Nat) : Prop := ∃ (v : AV) (L : List Int) (i : Nat), H[p]? = some (.cells [v, .int .i64 i] .rw) ∧ SL H 1 v (u64s L) ∧ (∀ x ∈ L, U64 x) ∧ (∀ b ∈ blk v, b < p) ∧ i ≤ n
theorem Dk.chg {H H' : AH} {p n : Nat} {F : List Nat} (h : Dk H p n) (c : Chg F H H') (hF : ∀ i ∈ F, p < i) : Dk H' p n := by
  obtain ⟨v, L, i, h1, h2, h3, h4, h5⟩ := h
  exact ⟨v, L, i, c.get h1 (fun hp => by have := hF p hp; omega), h2.chg c (fun b hb hf => by have := hF b hf; have := h4 b hb; omega), h3, h4, h5⟩
theorem Dk.keep {H H' : AH} {p n : Nat} (h : Dk H p n) (c : Chg [] H H') : Dk H' p n := h.chg c (by simp)
theorem Dk.more {H : AH} {p n m : Nat} (h : Dk H p n) (hm : n ≤ m) : Dk H p m := by
  obtain ⟨v, L, i, h1, h2, h3, h4, h5⟩ := h
  exact ⟨v, L, i, h1, h2, h3, h4, by omega⟩
theorem Dk.lt {H : AH} {p n : Nat} (h : Dk H p n) : p < H.length := by
  obtain ⟨v, L, i, h1, _⟩ := h
  exact lt_of_get h1
section
variable {k p n : Nat} {H : AH}
theorem next_ok (h : Dk H p n) (hn : n ≤ 1000000) : Hx (callA ap (k + 1) (.func 41 [] []) [.ptr (some (p, 0))] 0 H) fun r => ∃ x, r.1 = .int .u64 x ∧ U64 x ∧ Dk r.2 p (n + 1) ∧ Chg [p] H r.2 := by
  obtain ⟨v, L, i, h1, h2, h3, h4, h5⟩ := h
  rw [hx_go fn41 rfl, b41]
  obtain ⟨a, c, s, rfl⟩ := h2.form1
  have hw : IntKind.i64.wrap ((i : Int) + 1) = ((i + 1 : Nat) : Int) := by rw [wrap_i64 (by omega) (by omega)]; omega
  have fin : ∀ {H2 : AH}, Chg [] H H2 → Dk (H2.set p (.cells [.slice a (u64s L).length c s, .int .i64 ((i + 1 : Nat) : Int)] .rw)) p (n + 1) ∧ Chg [p] H (H2.set p (.cells [.slice a (u64s L).length c s, .int .i64 ((i + 1 : Nat) : Int)] .rw)) := fun {H2} c2 => by
    have g := c2.get h1 (by simp)
    refine ⟨⟨_, L, i + 1, List.getElem?_set_self (lt_of_get g), (h2.keep c2).chg (.set _ _ _) (fun b hb => by have := h4 b hb; simp; omega), h3, h4, by omega⟩, c2.nil.trans (.set _ _ _) (by simp)⟩
  simp [f41, b41]
  refine hx_drawn dc41_2 fun H1 c1 hl1 hd1 => ?_
  have g1 := rowOf_rw (c1.get h1 (by simp))
  by_cases hi : i < L.length
  · simp [d41_2, eqV, g1, hi]
    refine hx_drawn dc41_3 fun H2 c2 hl2 hd2 => ?_
    have c2 := c1.tr c2
    have g2 := c2.get h1 (by simp)
    obtain ⟨b0, o0, c0, r0, e0, k1, k2⟩ := (h2.keep c2).get1 (i := i) (by simpa using hi)
    injection e0 with z1 z2 z3 z4
    subst z1 z3 z4
    have k2 : r0[o0 + i]? = some (.int .u64 L[i]) := by rw [k2]; simp [u64s, hi]
    have hx : U64 L[i] := h3 _ (List.getElem_mem hi)
    generalize L[i] = x at *
    have f2 := fin c2
    simp only [u64s_len] at f2
    simp [d41_3, eqV, rowOf_rw g2, rowRw_rw g2, k1, k2, hi, hw]
    exact ⟨hx, f2⟩
  · have f1 := fin c1
    simp only [u64s_len] at f1
    have g2 := c1.get h1 (by simp)
    simp [d41_2, eqV, g1, hi, rowRw_rw g2, hw]
    exact ⟨⟨by omega, by omega⟩, f1⟩
theorem wrap_u64_in {x : Int} (h : U64 x) : IntKind.u64.wrap x = x := wraps_u64 x h.1 (by have := h.2; omega)
theorem n_ok (h : Dk H p n) (hn : n ≤ 1000000) {m : Int} (h1 : 1 ≤ m) (h2 : m ≤ 1000000000000) : Hx (callA ap (k + 2) (.func 31 [] []) [.ptr (some (p, 0)), .int .i64 m] 0 H) fun r => ∃ x, r.1 = .int .i64 x ∧ (0 ≤ x ∧ x < m) ∧ Dk r.2 p (n + 1) ∧ Chg [p] H r.2 := by
  rw [hx_go fn31 rfl, b31]
  simp [f31, b31]
  refine Hx.mapp (next_ok h hn) ?_
  rintro ⟨r, H2⟩ ⟨x, e, hx, hd, c⟩
  simp only at e hd c
  subst e
  have hm : IntKind.u64.wrap m = m := wrap_u64_in ⟨by omega, by omega⟩
  have hm0 : ¬ m = 0 := by omega
  have ht : x.tmod m = x % m := Int.tmod_eq_emod_of_nonneg hx.1
  have h3 := Int.emod_nonneg x hm0
  have h4 := Int.emod_lt_of_pos x (b := m) (by omega)
  have hw : IntKind.i64.wrap (x % m) = x % m := wrap_i64 (by omega) (by omega)
  simp [hm, hm0, ht, hw]
  exact ⟨⟨h3, h4⟩, hd, c⟩
theorem yes_ok (h : Dk H p n) (hn : n ≤ 1000000) {m : Int} (h1 : 1 ≤ m) (h2 : m ≤ 1000000000000) : Hx (callA ap (k + 3) (.func 35 [] []) [.ptr (some (p, 0)), .int .i64 m] 0 H) fun r => ∃ b, r.1 = .bool b ∧ Dk r.2 p (n + 1) ∧ Chg [p] H r.2 := by
  rw [hx_go fn35 rfl, b35]
  simp [f35, b35]
  refine Hx.mapp (n_ok h hn h1 h2) ?_
  rintro ⟨r, H2⟩ ⟨x, e, hx, hd, c⟩
  simp only at e hd c
  subst e
  simp
  exact ⟨Decidable.em _ |>.symm, hd, c⟩
theorem some_ok (h : Dk H p n) (hn : n ≤ 1000000) : Hx (callA ap (k + 2) (.func 32 [] []) [.ptr (some (p, 0))] 0 H) fun r => ∃ x, r.1 = .int .i64 x ∧ (0 ≤ x ∧ x ≤ 9223372036854775807) ∧ Dk r.2 p (n + 1) ∧ Chg [p] H r.2 := by
  rw [hx_go fn32 rfl, b32]
  simp [f32, b32]
  refine Hx.mapp (next_ok h hn) ?_
  rintro ⟨r, H2⟩ ⟨x, e, hx, hd, c⟩
  simp only at e hd c
  subst e
  obtain ⟨hx0, hx1⟩ := hx
  have hm : ∀ y : Int, 0 ≤ y → y ≤ 9223372036854775807 → IntKind.i64.wrap y = y := fun y a b => wrap_i64 (by omega) b
  have s1 : ishr .u64 x 1 = x / 2 := shr1 x
  have s3 : ishr .u64 x 3 = x / 8 := by
    show x.fdiv 8 = x / 8
    rw [Int.fdiv_eq_ediv_of_nonneg _ (by decide)]
  have t8 : ∀ q : Int, (x / 8).tmod q = (x / 8) % q := fun q => Int.tmod_eq_emod_of_nonneg (by omega)
  have w1 := hm (x / 2) (by omega) (by omega)
  have w2 := hm (x / 8 % 1000000000000) (by omega) (by omega)
  have w3 := hm (x / 8 % 2) (by omega) (by omega)
  have w4 := hm (x / 8 % 5000) (by omega) (by omega)
  by_cases q0 : x.tmod 8 = 0
  · simp [q0, s1, w1]
    exact ⟨by omega, hd, c⟩
  by_cases q1 : x.tmod 8 = 1
  · simp [q1, s3, t8, w2]
    exact ⟨by omega, hd, c⟩
  by_cases q2 : x.tmod 8 = 2
  · simp [q2, s3, t8, w3]
    exact ⟨by omega, hd, c⟩
  · simp [q0, q1, q2, s3, t8, w4]
    exact ⟨by omega, hd, c⟩
theorem of_ok {v : AV} {L : List Int} (h : SL H 1 v (u64s L)) (hL : ∀ x ∈ L, U64 x) : Hx (callA ap (k + 1) (.func 16 [] []) [v] 0 H) fun r => r.1 = .ptr (some (H.length, 0)) ∧ Dk r.2 H.length 0 ∧ Chg [] H r.2 := by
  rw [hx_go fn16 rfl, b16]
  obtain ⟨a, c, s, rfl⟩ := h.form1
  simp only [u64s_len] at h
  simp [f16, b16]
  refine ⟨⟨.slice a L.length c s, L, 0, by simp, by simpa using h.keep (.app _ _), hL, fun b hb => ?_, Nat.le_refl 0⟩, .app _ _⟩
  exact h.lt b hb
end
end Go.Proofs.Ytdhedlkfpdakpaa.T
