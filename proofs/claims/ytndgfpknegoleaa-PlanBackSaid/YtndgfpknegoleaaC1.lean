import Derived.Test.YtndgfpknegoleaaE1
/-! Configs: which are right. -/
set_option linter.unusedVariables false
set_option linter.unusedSimpArgs false
set_option maxHeartbeats 4000000
set_option maxRecDepth 100000
namespace Go.Proofs.Ytndgfpknegoleaa.T
open Go Go.Ab
@[simp] theorem rowRw_z0 {H X : AH} : rowRw (H ++ X) 0 H.length = rowRw X 0 0 := rowRw_new0 (Nat.zero_le _)
@[simp] theorem rowRw_z {H X : AH} {i : Nat} : rowRw (H ++ X) 0 (H.length + i) = rowRw X 0 i := rowRw_new (Nat.zero_le _)
structure I4 where
  b : Int
  p : Int
  r : Int
  s : Int
  deriving DecidableEq
def I4.cs (x : I4) : List AV := [.int .i64 x.b, .int .i64 x.p, .int .i64 x.r, .int .i64 x.s]
structure Cf where
  ins : List I4
  skin : Int
  times : Int
  port : Int
  bid : Int
  lot : Int
  hmin : Int
  deriving DecidableEq
def insC (l : List I4) : List AV := (l.map I4.cs).flatten
@[simp] theorem insC_len {l : List I4} : (insC l).length = 4 * l.length := by
  unfold insC
  rw [flatten_len (sz := 4) _ (by simp only [List.mem_map]; rintro _ ⟨a, _, rfl⟩; rfl), List.length_map, Nat.mul_comm]
abbrev SI (H : AH) (v : AV) (l : List I4) : Prop := SL H 4 v (insC l)
section
variable {k : Nat} {H : AH} {v : AV} {l : List I4}
theorem SI.form (h : SI H v l) : ∃ a c s, v = .slice a l.length c s := by
  have := sle_form (es := l.map I4.cs) h (by simp only [List.mem_map]; rintro _ ⟨a, _, rfl⟩; rfl) (by omega)
  simpa using this
theorem SI.get (h : SI H v l) {i : Nat} {x : I4} (hx : l[i]? = some x) : ∃ b o c r, v = .slice (some (b, o)) l.length c 4 ∧ rowOf H b = some r ∧ o + i * 4 + 4 ≤ r.length ∧ (r.drop (o + i * 4)).take 4 = x.cs ∧ ∀ j, j < 4 → r[o + i * 4 + j]? = x.cs[j]? := by
  have := sle_get (es := l.map I4.cs) h (by simp only [List.mem_map]; rintro _ ⟨a, _, rfl⟩; rfl) (by omega) (i := i) (x := x.cs) (by simp [hx])
  simpa using this
def Cf.cs (c : Cf) (v : AV) : List AV := [v, .int .i64 c.skin, .int .i64 c.times, .int .i64 c.port, .int .i64 c.bid, .int .i64 c.lot, .int .i64 c.hmin]
def inB (n lo hi : Int) : Bool := decide (lo ≤ n) && decide (n ≤ hi)
theorem in_ok {n lo hi : Int} : callA ap (k + 1) (.func 24 [] []) [.int .i64 n, .int .i64 lo, .int .i64 hi] 0 H = some (.bool (inB n lo hi), H) := by
  rw [← Hx_eq, hx_call fn24 rfl]
  by_cases h : lo ≤ n
  · simp [f24, b24, h, inB]
  · simp [f24, b24, h, inB]
theorem within_ok {n lo hi : Int} : callA ap (k + 1) (.func 25 [] []) [.int .i64 n, .int .i64 lo, .int .i64 hi] 0 H = some (.bool (inB n lo hi), H) := by
  rw [← Hx_eq, hx_call fn25 rfl]
  by_cases h : lo ≤ n
  · simp [f25, b25, h, inB]
  · simp [f25, b25, h, inB]
def rightI (x : I4) : Bool := inB x.b 0 3 && (inB x.p 1 1000000000000 && (inB x.r 0 1000000000 && inB x.s 0 1000000000))
def rightR (c : Cf) : Bool := decide (0 ≤ c.skin) && (inB c.times 0 4 && (inB c.port 0 1000000 && (inB c.bid 0 1000000 && (inB c.lot 1 4611686018427387904 && decide (0 ≤ c.hmin)))))
/-- Which may be. -/
def rightC (c : Cf) : Bool := inB c.ins.length 1 6 && (c.ins.all rightI && rightR c)
theorem all_take {p : I4 → Bool} {l : List I4} {i : Nat} {x : I4} (hx : l[i]? = some x) : (l.take (i + 1)).all p = ((l.take i).all p && p x) := by
  rw [List.take_add_one, hx]
  simp only [Option.toList_some, List.all_append, List.all_cons, List.all_nil, Bool.and_true]
theorem all_not {p : I4 → Bool} {l : List I4} {i : Nat} {x : I4} (hx : l[i]? = some x) (h : p x = false) : l.all p = false := by
  have hi := (List.getElem?_eq_some_iff.1 hx)
  obtain ⟨hi, rfl⟩ := hi
  cases e : l.all p with
  | false => rfl
  | true => exact absurd (List.all_eq_true.1 e _ (List.getElem_mem hi)) (by simp [h])
theorem get_d {l : List I4} {i : Nat} (hi : i < l.length) : l[i]? = some l[i] := List.getElem?_eq_getElem hi
theorem right_ok {c : Cf} (h : SI H v c.ins) (hl : c.ins.length ≤ 1000000) (hk : c.ins.length + 10 < k) : Hx (callA ap k (.func 11 [] []) [.agg (c.cs v)] 0 H) fun r => r.1 = .bool (rightC c) ∧ Chg [] H r.2 := by
  obtain ⟨k, rfl⟩ : ∃ k', k = k' + 2 := ⟨k - 2, by omega⟩
  rw [hx_call fn11 rfl]
  obtain ⟨a, cp, s, rfl⟩ := h.form
  cases h6 : inB c.ins.length 1 6 with
  | false =>
    simp [f11, b11, Cf.cs, in_ok, h6, rightC]
    exact .app _ _
  | true =>
    obtain ⟨l, hll⟩ : ∃ l, l = c.ins := ⟨_, rfl⟩
    simp [f11, b11, Cf.cs, in_ok, h6]
    obtain ⟨H1, e1⟩ : ∃ H1, H1 = H ++ [.cells (c.cs (.slice a c.ins.length cp s)) .rw] := ⟨_, rfl⟩
    have c1 : Chg [] H H1 := by rw [e1]; exact .app _ _
    have g0 : H1[H.length]? = some (.cells (c.cs (.slice a c.ins.length cp s)) .rw) := by rw [e1]; simp
    simp only [Cf.cs] at e1 g0
    rw [← e1]
    refine hx_up (fun i s' => ∃ H', s' = ⟨sp 68 [(1, .ptr (some (H.length, 0))), (11, .slice a c.ins.length cp s), (12, .int .i64 c.ins.length), (13, .int .i64 i)], H', []⟩ ∧ Chg [] H1 H' ∧ (c.ins.take i).all rightI = true) c.ins.length ?_ ?_ (by omega) ⟨H1, rfl, .refl, by simp⟩
    · rintro i _ hi ⟨H', rfl, c2, hq⟩
      have h' := h.keep (c1.tr c2)
      obtain ⟨b, o, c0, r, e0, g1, g2, g3, -⟩ := SI.get h' (get_d hi)
      injection e0 with z1 z2 z3 z4
      subst z1 z3 z4
      have hw : IntKind.i64.wrap ((i : Int) + 1) = ((i + 1 : Nat) : Int) := by rw [wrap_i64 (by omega) (by omega)]; omega
      have ht := all_take (p := rightI) (get_d hi)
      have hn := all_not (p := rightI) (get_d hi)
      rw [hq] at ht
      have hlt : ((i : Int) < (c.ins.length : Int)) := by omega
      generalize c.ins[i] = x at *
      simp only [I4.cs] at g3
      have c3 : Chg [] H (H' ++ [AB.cells [.int .i64 x.b, .int .i64 x.p, .int .i64 x.r, .int .i64 x.s] .rw]) := (c1.tr c2).tr (.app _ _)
      have c4 : Chg [] H1 (H' ++ [AB.cells [.int .i64 x.b, .int .i64 x.p, .int .i64 x.r, .int .i64 x.s] .rw]) := c2.tr (.app _ _)
      cases q1 : inB x.b 0 3 with
      | false =>
        have hn := hn (by simp [rightI, q1])
        simp [hi, g1, g2, g3, in_ok, q1, rightC, hn, c3]
      | true =>
        cases q2 : inB x.p 1 1000000000000 with
        | false =>
          have hn := hn (by simp [rightI, q2])
          simp [hi, g1, g2, g3, in_ok, q1, q2, rightC, hn, c3]
        | true =>
          cases q3 : inB x.r 0 1000000000 with
          | false =>
            have hn := hn (by simp [rightI, q3])
            simp [hi, g1, g2, g3, in_ok, q1, q2, q3, rightC, hn, c3]
          | true =>
            cases q4 : inB x.s 0 1000000000 with
            | false =>
              have hn := hn (by simp [rightI, q4])
              simp [hi, g1, g2, g3, in_ok, q1, q2, q3, q4, rightC, hn, c3]
            | true =>
              simp [hi, g1, g2, g3, in_ok, q1, q2, q3, q4, hw]
              exact ⟨_, rfl, c4, List.all_eq_true.1 (by rw [ht]; simp [rightI, q1, q2, q3, q4])⟩
    · rintro _ ⟨H', rfl, c2, hq⟩
      rw [List.take_length] at hq
      have g := rowOf_rw (c2.get g0 (by simp))
      have c3 := c1.tr c2
      by_cases q0 : 0 ≤ c.skin
      · cases q1 : inB c.times 0 4 with
        | false => simp [g, in_ok, q0, q1, rightC, rightR, c3]
        | true =>
          cases q2 : inB c.port 0 1000000 with
          | false => simp [g, in_ok, q0, q1, q2, rightC, rightR, c3]
          | true =>
            cases q3 : inB c.bid 0 1000000 with
            | false => simp [g, in_ok, q0, q1, q2, q3, rightC, rightR, c3]
            | true =>
              cases q4 : inB c.lot 1 4611686018427387904 with
              | false => simp [g, in_ok, q0, q1, q2, q3, q4, rightC, rightR, c3]
              | true => simp [g, in_ok, q0, q1, q2, q3, q4, rightC, rightR, c3, h6, hq]
      · simp [g, in_ok, q0, rightC, rightR, c3]
theorem rright_ok {c : Cf} (h : SI H v c.ins) (hl : c.ins.length ≤ 1000000) (hk : c.ins.length + 10 < k) : Hx (callA ap k (.func 12 [] []) [.agg (c.cs v)] 0 H) fun r => r.1 = .bool (rightC c) ∧ Chg [] H r.2 := by
  obtain ⟨k, rfl⟩ : ∃ k', k = k' + 2 := ⟨k - 2, by omega⟩
  rw [hx_call fn12 rfl]
  obtain ⟨a, cp, s, rfl⟩ := h.form
  obtain ⟨n, hn⟩ : ∃ n, n = c.ins.length := ⟨_, rfl⟩
  by_cases hlo : (c.ins.length : Int) < 1
  · have h6 : inB c.ins.length 1 6 = false := by unfold inB; simp; omega
    simp [f12, b12, Cf.cs, hlo, h6, rightC]
    exact .app _ _
  by_cases hhi : (6 : Int) < (c.ins.length : Int)
  · have h6 : inB c.ins.length 1 6 = false := by unfold inB; simp; omega
    simp [f12, b12, Cf.cs, hlo, hhi, h6, rightC]
    exact .app _ _
  · have h6 : inB c.ins.length 1 6 = true := by unfold inB; simp; omega
    simp [f12, b12, Cf.cs, hlo, hhi]
    obtain ⟨H1, e1⟩ : ∃ H1, H1 = H ++ [.cells (c.cs (.slice a c.ins.length cp s)) .rw] := ⟨_, rfl⟩
    have c1 : Chg [] H H1 := by rw [e1]; exact .app _ _
    have g0 : H1[H.length]? = some (.cells (c.cs (.slice a c.ins.length cp s)) .rw) := by rw [e1]; simp
    simp only [Cf.cs] at e1 g0
    rw [← e1]
    refine hx_up (fun i s' => ∃ H', s' = ⟨sp 77 [(1, .ptr (some (H.length, 0))), (3, .int .i64 i)], H', []⟩ ∧ Chg [] H1 H' ∧ (c.ins.take i).all rightI = true) c.ins.length ?_ ?_ (by omega) ⟨H1, rfl, .refl, by simp⟩
    · rintro i _ hi ⟨H', rfl, c2, hq⟩
      have h' := h.keep (c1.tr c2)
      obtain ⟨b, o, c0, r, e0, g1, g2, g3, -⟩ := SI.get h' (get_d hi)
      injection e0 with z1 z2 z3 z4
      subst z1 z3 z4
      have hw : IntKind.i64.wrap ((i : Int) + 1) = ((i + 1 : Nat) : Int) := by rw [wrap_i64 (by omega) (by omega)]; omega
      have ht := all_take (p := rightI) (get_d hi)
      have hn := all_not (p := rightI) (get_d hi)
      rw [hq] at ht
      have hlt : ((i : Int) < (c.ins.length : Int)) := by omega
      generalize c.ins[i] = x at *
      simp only [I4.cs] at g3
      have g := rowOf_rw (c2.get g0 (by simp))
      have c3 : Chg [] H (H' ++ [AB.cells [.int .i64 x.b, .int .i64 x.p, .int .i64 x.r, .int .i64 x.s] .rw]) := (c1.tr c2).tr (.app _ _)
      have c4 : Chg [] H1 (H' ++ [AB.cells [.int .i64 x.b, .int .i64 x.p, .int .i64 x.r, .int .i64 x.s] .rw]) := c2.tr (.app _ _)
      cases q1 : inB x.b 0 3 with
      | false =>
        have hn := hn (by simp [rightI, q1])
        simp [hi, g, g1, g2, g3, within_ok, q1, rightC, hn, c3]
      | true =>
        cases q2 : inB x.p 1 1000000000000 with
        | false =>
          have hn := hn (by simp [rightI, q2])
          simp [hi, g, g1, g2, g3, within_ok, q1, q2, rightC, hn, c3]
        | true =>
          cases q3 : inB x.r 0 1000000000 with
          | false =>
            have hn := hn (by simp [rightI, q3])
            simp [hi, g, g1, g2, g3, within_ok, q1, q2, q3, rightC, hn, c3]
          | true =>
            cases q4 : inB x.s 0 1000000000 with
            | false =>
              have hn := hn (by simp [rightI, q4])
              simp [hi, g, g1, g2, g3, within_ok, q1, q2, q3, q4, rightC, hn, c3]
            | true =>
              simp [hi, g, g1, g2, g3, within_ok, q1, q2, q3, q4, hw]
              exact ⟨_, rfl, c4, List.all_eq_true.1 (by rw [ht]; simp [rightI, q1, q2, q3, q4])⟩
    · rintro _ ⟨H', rfl, c2, hq⟩
      rw [List.take_length] at hq
      have g := rowOf_rw (c2.get g0 (by simp))
      have c3 := c1.tr c2
      by_cases q0 : 0 ≤ c.skin
      · cases q1 : inB c.times 0 4 with
        | false => simp [g, within_ok, q0, q1, rightC, rightR, c3]
        | true =>
          cases q2 : inB c.port 0 1000000 with
          | false => simp [g, within_ok, q0, q1, q2, rightC, rightR, c3]
          | true =>
            cases q3 : inB c.bid 0 1000000 with
            | false => simp [g, within_ok, q0, q1, q2, q3, rightC, rightR, c3]
            | true =>
              cases q4 : inB c.lot 1 4611686018427387904 with
              | false => simp [g, within_ok, q0, q1, q2, q3, q4, rightC, rightR, c3]
              | true => simp [g, within_ok, q0, q1, q2, q3, q4, rightC, rightR, c3, h6, hq]
      · simp [g, within_ok, q0, rightC, rightR, c3]
end
end Go.Proofs.Ytndgfpknegoleaa.T
