import Derived.Test.YtndgfpknegoleaaC6
import Derived.Test.YtndgfpknegoleaaD2
/-! PlanBuckets: each instrument is in just one bucket. -/
set_option linter.unusedVariables false
set_option linter.unusedSimpArgs false
set_option maxHeartbeats 4000000
set_option maxRecDepth 100000
namespace Go.Proofs.Ytndgfpknegoleaa.T
open Go Go.Ab
theorem bk_mem {n : Int} : ∀ {l : List I4} {i : Nat} {x : Int}, x ∈ bk n i l → ∃ m : Nat, x = ((i + m : Nat) : Int) ∧ ∃ y, l[m]? = some y ∧ y.b = n
  | [], i, x, h => by simp [bk] at h
  | y :: l, i, x, h => by
    simp only [bk] at h
    have up : x ∈ bk n (i + 1) l → ∃ m : Nat, x = ((i + m : Nat) : Int) ∧ ∃ z, (y :: l)[m]? = some z ∧ z.b = n := fun h => by
      obtain ⟨m, e, z, h1, h2⟩ := bk_mem h
      exact ⟨m + 1, by omega, z, by simpa using h1, h2⟩
    split at h
    · rename_i hb
      rcases List.mem_cons.1 h with e | h
      · exact ⟨0, by simpa using e, y, by simp, hb⟩
      · exact up h
    · exact up h
theorem bk_sorted {n : Int} : ∀ {l : List I4} {i : Nat}, (bk n i l).Pairwise (· < ·)
  | [], i => by simp [bk]
  | y :: l, i => by
    simp only [bk]
    split
    · refine List.Pairwise.cons (fun x hx => ?_) bk_sorted
      obtain ⟨m, e, _⟩ := bk_mem hx
      omega
    · exact bk_sorted
def tot : Nat → List I4 → Nat
  | 0, _ => 0
  | k + 1, l => tot k l + (bk k 0 l).length
theorem bk_shift (n : Int) : ∀ (l : List I4) (i j : Nat), (bk n i l).length = (bk n j l).length
  | [], i, j => rfl
  | y :: l, i, j => by
    have := bk_shift n l (i + 1) (j + 1)
    simp only [bk]
    split <;> simp [this]
theorem tot_cons (y : I4) (l : List I4) : ∀ k : Nat, tot k (y :: l) = tot k l + if 0 ≤ y.b ∧ y.b < k then 1 else 0
  | 0 => by simp [tot]; try omega
  | k + 1 => by
    have h1 := tot_cons y l k
    have h2 := bk_shift k l 1 0
    simp only [tot, bk]
    by_cases hb : y.b = k
    · rw [if_pos hb, h1, List.length_cons, h2, if_neg (by omega), if_pos (by omega)]
      omega
    · rw [if_neg hb, h1, h2]
      by_cases hc : 0 ≤ y.b ∧ y.b < k
      · rw [if_pos hc, if_pos (by omega)]; omega
      · rw [if_neg hc, if_neg (by omega)]; omega
theorem tot_all : ∀ {l : List I4}, l.all rightI = true → tot 4 l = l.length
  | [], _ => rfl
  | y :: l, h => by
    simp only [List.all_cons, Bool.and_eq_true] at h
    rw [tot_cons, tot_all h.2]
    have := h.1
    simp only [rightI, inB, Bool.and_eq_true, decide_eq_true_eq] at this
    rw [if_pos (by omega)]
    simp
theorem tot_le (l : List I4) : ∀ k, tot k l ≤ k * l.length
  | 0 => by simp [tot]
  | k + 1 => by
    have h1 := tot_le l k
    have h2 := bk_le k l 0
    simp only [tot, Nat.add_mul, Nat.one_mul]
    omega
theorem bk_none {n : Int} {l : List I4} (h : l.all rightI = true) (hn : n < 0 ∨ 3 < n) (i : Nat) : bk n i l = [] := by
  match hb : bk n i l with
  | [] => rfl
  | x :: r =>
    obtain ⟨m, _, y, h1, h2⟩ := bk_mem (n := n) (l := l) (i := i) (x := x) (by rw [hb]; simp)
    have := List.all_eq_true.1 h y (List.mem_of_getElem? h1)
    simp only [rightI, inB, Bool.and_eq_true, decide_eq_true_eq] at this
    omega
theorem right_all {c : Cf} (h : rightC c = true) : c.ins.all rightI = true := by
  simp only [rightC, Bool.and_eq_true] at h
  exact h.2.1
section
variable {k : Nat} {H : AH} {v : AV}
theorem planBuckets_ok {L : List Int} (h : SL H 1 v (u64s L)) (hL : ∀ x ∈ L, U64 x) (hk : 300 < k) :
    Hx (callA ap k (.func 7 [] []) [v] 0 H) fun r => r.1 = .bool true := by
  obtain ⟨k, rfl⟩ : ∃ k', k = k' + 40 := ⟨k - 40, by omega⟩
  rw [hx_call fn7 rfl]
  simp [f7, b7, known_ok]
  refine Hx.mapp (of_ok h hL) ?_
  rintro ⟨r, H1⟩ ⟨e, dk, c1⟩
  simp only at e dk c1
  subst e
  simp
  refine Hx.mapp (config_ok dk (by omega)) ?_
  rintro ⟨r, H2⟩ ⟨v1, c, e, m1, hr1, f1, -, -, -⟩
  simp only at e m1
  subst e
  have o1 : v1.one = true := by obtain ⟨_, _, _, _, rfl, _⟩ := m1.sl.form; rfl
  obtain ⟨G, eG⟩ : ∃ G, G = H2 ++ [.cells (c.cs v1) .rw] := ⟨_, rfl⟩
  have x2 : Chg [] H2 G := by rw [eG]; exact .app _ _
  have r1 : G[H2.length]? = some (.cells (c.cs v1) .rw) := by rw [eG]; simp
  replace m1 := m1.sl.keep x2
  simp only [Cf.cs] at eG
  simp [Cf.cs, o1]
  rw [← eG]
  have hrl := right_len hr1
  have hra := right_all hr1
  have hbk : ∀ n, bkC c n = bk n 0 c.ins := fun n => by unfold bkC; rw [if_pos hr1]
  obtain ⟨va, vc, vs, rfl⟩ := SI.form m1
  refine hx_up (fun i s => ∃ H', s = ⟨sp 89 [(3, .ptr (some (H2.length, 0))), (4, .int .i64 (tot i c.ins)), (5, .int .i64 i)], H', []⟩ ∧ Chg [] G H') 4 ?_ ?_ (by omega) ⟨G, by simp [maskS, tot], .refl⟩
  · rintro i _ hi ⟨H3, rfl, c3⟩
    have g3 := rowOf_rw (c3.get r1 (by simp))
    simp only [Cf.cs] at g3
    have hi' : (i : Int) < 4 := by omega
    simp [hi', g3]
    refine Hx.mapp (bucket_ok (c := c) (n := i) (m1.keep c3) (by omega) (by omega)) ?_
    rintro ⟨y, H4⟩ ⟨m4, c4, -⟩
    simp only at m4 c4
    rw [hbk] at m4
    have sn := m4.sl
    obtain ⟨ya, yc, ys, rfl⟩ := SN.form sn
    have hlb := bk_le i c.ins 0
    have htl := tot_le c.ins i
    have ht6 : i * c.ins.length ≤ 4 * 6 := Nat.mul_le_mul (by omega) hrl.2
    simp
    have c5 := c3.tr c4
    refine hx_up (fun j s => ∃ H', s = ⟨sp 89 [(3, .ptr (some (H2.length, 0))), (4, .int .i64 (tot i c.ins + j : Nat)), (5, .int .i64 i), (6, .slice ya (bk i 0 c.ins).length yc ys), (7, .int .i64 j)], H', []⟩ ∧ Chg [] H4 H') (bk i 0 c.ins).length ?_ ?_ (by omega) ⟨H4, by simp [maskS], .refl⟩
    · rintro j _ hj ⟨H5, rfl, c6⟩
      have hj' : (j : Int) < ((bk i 0 c.ins).length : Int) := by omega
      simp [hj']
      refine hx_drawn dc7_12 fun H6 c7 hl6 hd6 => ?_
      have c8 := c6.tr c7
      have c9 := c5.tr c8
      obtain ⟨b0, o0, c0, r0, e0, g0, g1⟩ := SN.get (sn.keep c8) hj
      injection e0 with z1 z2 z3 z4
      subst z1 z3 z4
      have hmem : (bk i 0 c.ins).getD j 0 ∈ bk i 0 c.ins := by
        rw [List.getD_eq_getElem?_getD, List.getElem?_eq_getElem hj]
        exact List.getElem_mem hj
      obtain ⟨m, em, x, hx, hxb⟩ := bk_mem hmem
      rw [Nat.zero_add] at em
      have hml : m < c.ins.length := (List.getElem?_eq_some_iff.1 hx).1
      obtain ⟨b2, o2, c2, r2, e2, q1, q2, q3, q4⟩ := SI.get (m1.keep c9) hx
      have q5 := q4 0 (by omega)
      simp [I4.cs] at q5
      injection e2 with z1 z3 z4 z5
      subst z1 z4 z5
      have g4 := rowOf_rw (c9.get r1 (by simp))
      simp only [Cf.cs] at g4
      have w1 : IntKind.i64.wrap ((tot i c.ins + j : Nat) + 1 : Int) = ((tot i c.ins + (j + 1) : Nat) : Int) := by rw [wrap_i64 (by omega) (by omega)]; omega
      have w2 : IntKind.i64.wrap ((j : Int) + 1) = ((j + 1 : Nat) : Int) := by rw [wrap_i64 (by omega) (by omega)]; omega
      have nb : ¬ (c.ins.length : Int) ≤ (m : Int) := by omega
      rw [em] at g1
      have m0 : ¬ (m : Int) < 0 := by omega
      by_cases hz : j = 0
      · subst hz
        rw [Nat.add_zero] at g1
        have w3 : IntKind.i64.wrap ((tot i c.ins : Int) + 1) = (tot i c.ins : Int) + 1 := wrap_i64 (by omega) (by omega)
        have w4 : IntKind.i64.wrap 1 = 1 := by decide
        simp [d7_12, g0, g1, g4, hj, hj', q1, q5, hml, nb, m0, hxb, w1, w2, w3, w4]
        exact ⟨H6, by simp [maskS], c8⟩
      · obtain ⟨q, hq⟩ : ∃ q, j = q + 1 := ⟨j - 1, by omega⟩
        have hqlt : q < (bk i 0 c.ins).length := by omega
        obtain ⟨b0', o0', c0', r0', e0', g0', g1'⟩ := SN.get (sn.keep c8) (i := q) hqlt
        injection e0' with z1 z2 z3 z4
        injection z1 with z1
        injection z1 with z1 z5
        subst z1 z5
        rw [g0] at g0'
        cases g0'
        have hmem' : (bk i 0 c.ins).getD q 0 ∈ bk i 0 c.ins := by
          rw [List.getD_eq_getElem?_getD, List.getElem?_eq_getElem hqlt]
          exact List.getElem_mem _
        obtain ⟨m', em', x', hx', hxb'⟩ := bk_mem hmem'
        rw [Nat.zero_add] at em'
        rw [em'] at g1'
        have hlt := List.pairwise_iff_getElem.1 (bk_sorted (n := i) (l := c.ins) (i := 0)) q j hqlt hj (by omega)
        rw [List.getD_eq_getElem?_getD, List.getElem?_eq_getElem hj, Option.getD_some] at em
        rw [List.getD_eq_getElem?_getD, List.getElem?_eq_getElem hqlt, Option.getD_some] at em'
        rw [em, em'] at hlt
        have w3 : IntKind.i64.wrap ((j : Int) - 1) = (q : Int) := by rw [wrap_i64 (by omega) (by omega)]; omega
        have w5 : IntKind.i64.wrap ((tot i c.ins : Int) + (j : Int) + 1) = (tot i c.ins : Int) + ((j : Int) + 1) := by rw [wrap_i64 (by omega) (by omega)]; omega
        have w6 : IntKind.i64.wrap ((j : Int) + 1) = (j : Int) + 1 := wrap_i64 (by omega) (by omega)
        have j0 : (0 : Int) < (j : Int) := by omega
        have nle : ¬ (m : Int) ≤ (m' : Int) := by omega
        have nle' : ¬ m ≤ m' := by omega
        have jp : 0 < j := by omega
        have hqlt' : (q : Int) < ((bk i 0 c.ins).length : Int) := by omega
        simp [d7_12, g0, g1, g4, hj, hj', q1, q5, hml, nb, m0, hxb, w1, w2, g1', w3, w5, w6, j0, jp, hqlt, hqlt', nle, nle']
        exact ⟨H6, by simp [maskS], c8⟩
    · rintro _ ⟨H5, rfl, c6⟩
      have w2 : IntKind.i64.wrap ((i : Int) + 1) = ((i + 1 : Nat) : Int) := by rw [wrap_i64 (by omega) (by omega)]; omega
      simp [w2]
      exact ⟨H5, by simp [maskS, tot], c5.tr c6⟩
  · rintro _ ⟨H3, rfl, c3⟩
    have g3 := rowOf_rw (c3.get r1 (by simp))
    simp only [Cf.cs] at g3
    have ht := tot_all hra
    simp [g3, ht]
    refine Hx.mapp (bucket_ok (c := c) (n := -1) (m1.keep c3) (by omega) (by omega)) ?_
    rintro ⟨y, H4⟩ ⟨m4, c4, -⟩
    simp only at m4 c4
    rw [hbk, bk_none hra (by omega)] at m4
    obtain ⟨ya, yc, ys, rfl⟩ := SN.form m4.sl
    have g4 := rowOf_rw ((c3.tr c4).get r1 (by simp))
    simp only [Cf.cs] at g4
    simp [g4]
    refine Hx.mapp (bucket_ok (c := c) (n := 4) (m1.keep (c3.tr c4)) (by omega) (by omega)) ?_
    rintro ⟨y, H5⟩ ⟨m5, c5, -⟩
    simp only at m5 c5
    rw [hbk, bk_none hra (by omega)] at m5
    obtain ⟨ya, yc, ys, rfl⟩ := SN.form m5.sl
    simp
end
theorem planBuckets_main (H : AH) (ass : List (List AV)) (hl : ass.length = [36].length) (ha : ∀ (i : Nat) t al, [36][i]? = some t → ass[i]? = some al → AR ap 6 H t al) :
    Hx (callA ap 2000 (.func 7 [] []) (List.zipWith (argA ap) [36] ass) 0 H) fun r => r.1 = .bool true := by
  match ass, hl with
  | [a0], _ =>
    obtain ⟨v, L, rfl, h0, hL⟩ := ar_u64s (ha 0 36 a0 rfl rfl) ty36 rfl ty64 rfl rfl
    simp only [List.zipWith_cons_cons, List.zipWith_nil_right, argA_one ty36 rfl]
    exact planBuckets_ok h0 hL (by omega)
end Go.Proofs.Ytndgfpknegoleaa.T
