import Derived.Test.YtndgfpknegoleaaC3
/-! Configs: their bytes. -/
set_option linter.unusedVariables false
set_option linter.unusedSimpArgs false
set_option maxHeartbeats 4000000
set_option maxRecDepth 100000
namespace Go.Proofs.Ytndgfpknegoleaa.T
open Go Go.Ab
def I4.ns (x : I4) : List Int := [x.b, x.p, x.r, x.s]
def flatI (l : List I4) : List Int := (l.map I4.ns).flatten
@[simp] theorem flatI_len {l : List I4} : (flatI l).length = 4 * l.length := by
  unfold flatI
  rw [flatten_len (sz := 4) _ (by simp only [List.mem_map]; rintro _ ⟨a, _, rfl⟩; rfl), List.length_map, Nat.mul_comm]
theorem flatI_take {l : List I4} {i : Nat} (hi : i < l.length) : flatI (l.take (i + 1)) = flatI (l.take i) ++ l[i].ns := by
  rw [List.take_add_one, List.getElem?_eq_getElem hi]
  unfold flatI
  rw [List.map_append, List.flatten_append]
  congr 1
/-- A config's numbers. -/
def Cf.ends (c : Cf) : List Int := [c.skin, c.times, c.port, c.bid, c.lot, c.hmin]
def flat (c : Cf) : List Int := ((c.ins.length : Int) :: flatI c.ins) ++ c.ends
@[simp] theorem flat_len {c : Cf} : (flat c).length = 4 * c.ins.length + 7 := by simp [flat, Cf.ends]
def encs (l : List Int) : List Int := (l.map enc).flatten
theorem encs_app (a b : List Int) : encs (a ++ b) = encs a ++ encs b := by simp [encs]
theorem encs_one (n : Int) : encs [n] = enc n := by simp [encs]
theorem encs_take {l : List Int} {i : Nat} (hi : i < l.length) : encs (l.take (i + 1)) = encs (l.take i) ++ enc (l.getD i 0) := by
  rw [List.take_add_one, List.getElem?_eq_getElem hi, encs_app]
  simp [encs, hi]
theorem encs_len : ∀ (l : List Int), (encs l).length ≤ 10 * l.length
  | [] => by simp [encs]
  | n :: l => by
    have h1 := encs_len l
    have h2 := (enc_len n).2
    have : encs (n :: l) = enc n ++ encs l := by simp [encs]
    rw [this]
    simp; omega
theorem encs_byt {l : List Int} (h : ∀ n ∈ l, I64 n) : Byt (encs l) := fun x hx => by
  simp only [encs, List.mem_flatten, List.mem_map] at hx
  obtain ⟨_, ⟨n, hn, rfl⟩, hx⟩ := hx
  exact enc_byt (h n hn) x hx
theorem i64_in {n lo hi : Int} (h : inB n lo hi = true) (h1 : -9223372036854775808 ≤ lo) (h2 : hi ≤ 9223372036854775807) : I64 n := by
  simp [inB] at h
  unfold I64; omega
theorem right_len {c : Cf} (h : rightC c = true) : 1 ≤ c.ins.length ∧ c.ins.length ≤ 6 := by
  simp only [rightC, Bool.and_eq_true] at h
  have := h.1
  simp [inB] at this
  omega
/-- What is beyond the bounds but for Skin and HedgeMin, of which only the lower bound is asked. -/
def FitC (c : Cf) : Prop := I64 c.skin ∧ I64 c.hmin
theorem flat_i64 {c : Cf} (h : rightC c = true) (hf : FitC c) : ∀ n ∈ flat c, I64 n := by
  have hl := right_len h
  simp only [rightC, rightR, Bool.and_eq_true, List.all_eq_true, rightI] at h
  obtain ⟨-, h1, -, h2, h3, h4, h5, -⟩ := h
  intro n hn
  simp only [flat, Cf.ends, List.cons_append, List.mem_cons, List.mem_append, flatI, List.mem_flatten, List.mem_map, List.not_mem_nil, or_false] at hn
  rcases hn with rfl | ⟨_, ⟨x, hx, rfl⟩, hn⟩ | rfl | rfl | rfl | rfl | rfl | rfl
  · unfold I64; omega
  · obtain ⟨q1, q2, q3, q4⟩ := h1 x hx
    simp only [I4.ns, List.mem_cons, List.not_mem_nil, or_false] at hn
    rcases hn with rfl | rfl | rfl | rfl
    · exact i64_in q1 (by omega) (by omega)
    · exact i64_in q2 (by omega) (by omega)
    · exact i64_in q3 (by omega) (by omega)
    · exact i64_in q4 (by omega) (by omega)
  · exact hf.1
  · exact i64_in h2 (by omega) (by omega)
  · exact i64_in h3 (by omega) (by omega)
  · exact i64_in h4 (by omega) (by omega)
  · exact i64_in h5 (by omega) (by omega)
  · exact hf.2
/-- A config's bytes. -/
def putB (c : Cf) : List Int := encs (flat c)
theorem putB_len {c : Cf} (h : rightC c = true) : (putB c).length ≤ 310 := by
  have h1 := encs_len (flat c)
  have := right_len h
  rw [flat_len] at h1
  unfold putB; omega
theorem SN.here {H : AH} {b o n : Nat} {c : Option Nat} {r : List AV} {cs : List Int} (h1 : rowOf H b = some r) (h2 : o + n ≤ r.length) (h3 : (r.drop o).take n = i64s cs) (h4 : ∀ k, c = some k → n ≤ k) : SN H (.slice (some (b, o)) n c 1) cs :=
  .at_ b o n c r _ Nat.one_pos h1 (by omega) (by rw [Nat.mul_one]; exact h3) h4
section
variable {k : Nat} {H : AH} {v w : AV}
theorem put_ok {c : Cf} (h : SI H v c.ins) (hl : c.ins.length ≤ 1000000) (hf : FitC c) (hk : c.ins.length + 100 < k) : Hx (callA ap k (.func 9 [] []) [.agg (c.cs v)] 0 H) fun r => ∃ x, r.1 = .tuple [x, .int .i64 (if rightC c then 0 else 1)] ∧ New8 H r.2 x (if rightC c then putB c else []) := by
  obtain ⟨k, rfl⟩ : ∃ k', k = k' + 21 := ⟨k - 21, by omega⟩
  rw [hx_call fn9 rfl]
  simp [f9, b9, Cf.cs]
  obtain ⟨H1, e1⟩ : ∃ H1, H1 = H ++ [.cells (c.cs v) .rw] := ⟨_, rfl⟩
  have c1 : Chg [] H H1 := by rw [e1]; exact .app _ _
  have g1 : H1[H.length]? = some (.cells (c.cs v) .rw) := by rw [e1]; simp
  have hcs : [v, AV.int .i64 c.skin, AV.int .i64 c.times, AV.int .i64 c.port, AV.int .i64 c.bid, AV.int .i64 c.lot, AV.int .i64 c.hmin] = c.cs v := rfl
  rw [hcs, ← e1]
  refine Hx.mapp (right_ok (h.keep c1) hl (by omega)) ?_
  rintro ⟨r, H2⟩ ⟨e, c2⟩
  simp only at e c2
  subst e
  have g1 := c2.get g1 (by simp)
  have c3 := c1.tr c2
  have h2 := h.keep c3
  obtain ⟨a, cp, s, rfl⟩ := h.form
  simp only [Cf.cs] at g1
  clear hcs
  cases hr : rightC c with
  | false =>
    simp [hr]
    exact ⟨.nil _ _, c3, by simp⟩
  | true =>
    have h6 := right_len hr
    have nw : NewN H2 (H2 ++ [.cells [.int .i64 (c.ins.length : Int)] .rw]) (.slice (some (H2.length, 0)) 1 (some 1) 1) ((c.ins.length : Int) :: flatI (c.ins.take 0)) :=
      ⟨.row _ 1 (some 1) [.int .i64 (c.ins.length : Int)] _ Nat.one_pos (by simp) (by simp) (by simp [i64s, flatI]) (by simp), .app _ _, by simp⟩
    simp [rowOf_rw g1, rowOf_rw (nw.2.1.get g1 (by simp))]
    refine hx_up (fun i s' => ∃ H' x, s' = ⟨sp 62 [(1, .ptr (some (H.length, 0))), (4, x), (18, .slice a c.ins.length cp s), (19, .int .i64 c.ins.length), (20, .int .i64 i)], H', []⟩ ∧ NewN H2 H' x ((c.ins.length : Int) :: flatI (c.ins.take i))) c.ins.length ?_ ?_ (by omega) ⟨_, _, rfl, nw⟩
    · clear nw
      rintro i _ hi ⟨H', x, rfl, hx⟩
      have hw : IntKind.i64.wrap ((i : Int) + 1) = ((i + 1 : Nat) : Int) := by rw [wrap_i64 (by omega) (by omega)]; omega
      obtain ⟨b0, o0, c0, r0, e0, g0, g3, g4, -⟩ := SI.get (h2.keep hx.2.1) (get_d hi)
      injection e0 with z1 z2 z3 z4
      subst z1 z3 z4
      have ht := flatI_take hi
      generalize c.ins[i] = p at *
      simp only [I4.cs] at g4
      have sn : SN (H' ++ [.cells [.int .i64 p.b, .int .i64 p.p, .int .i64 p.r, .int .i64 p.s] .rw, .cells [.int .i64 p.b, .int .i64 p.p, .int .i64 p.r, .int .i64 p.s] .rw]) (.slice (some (H'.length + 1, 0)) 4 (some 4) 1) p.ns := .at_ _ 0 4 _ [.int .i64 p.b, .int .i64 p.p, .int .i64 p.r, .int .i64 p.s] _ Nat.one_pos (by simp) (by simp) (by simp [i64s, I4.ns]) (by simp)
      simp [hi, g0, g3, g4]
      refine Hx.mapp (hx.push sn (.app _ _) (by simp [I4.ns]; unfold room; omega)) ?_
      rintro ⟨y, H3⟩ hy
      rw [List.cons_append, ← ht] at hy
      simp [hw]
      exact ⟨H3, y, rfl, hy⟩
    · clear nw
      rintro _ ⟨H', x, rfl, hx⟩
      rw [List.take_length] at hx
      simp [rowOf_rw (hx.2.1.get g1 (by simp))]
      have sn : SN (H' ++ [.cells [.int .i64 c.skin, .int .i64 c.times, .int .i64 c.port, .int .i64 c.bid, .int .i64 c.lot, .int .i64 c.hmin] .rw]) (.slice (some (H'.length, 0)) 6 (some 6) 1) c.ends := .at_ _ 0 6 _ [.int .i64 c.skin, .int .i64 c.times, .int .i64 c.port, .int .i64 c.bid, .int .i64 c.lot, .int .i64 c.hmin] _ Nat.one_pos (by simp) (by simp) (by simp [i64s, Cf.ends]) (by simp)
      refine Hx.mapp (hx.push sn (.app _ _) (by simp [Cf.ends]; unfold room; omega)) ?_
      rintro ⟨y, H3⟩ hy
      have hy : NewN H2 H3 y (flat c) := hy
      clear sn hx
      have hsl := hy.1.sl
      have hc := c3.tr hy.2.1
      obtain ⟨ya, yc, ys, rfl⟩ := SN.form hsl
      have hlen : (flat c).length ≤ 31 := by rw [flat_len]; omega
      have hI := flat_i64 hr hf
      have hpb : putB c = encs (flat c) := rfl
      rw [hpb]
      generalize flat c = L at *
      simp
      refine hx_up (fun i s' => ∃ H' z, s' = ⟨sp 62 [(7, z), (51, .slice ya L.length yc ys), (52, .int .i64 L.length), (53, .int .i64 i)], H', []⟩ ∧ New8 H3 H' z (encs (L.take i))) L.length ?_ ?_ (by omega) ⟨H3, _, rfl, .nil _ _, .refl, by simp⟩
      · rintro i _ hi ⟨H', z, rfl, hz⟩
        have hw : IntKind.i64.wrap ((i : Int) + 1) = ((i + 1 : Nat) : Int) := by rw [wrap_i64 (by omega) (by omega)]; omega
        obtain ⟨b0, o0, c0, r0, e0, g0, g3⟩ := SN.get (hsl.keep hz.2.1) hi
        injection e0 with z1 z2 z3 z4
        subst z1 z3 z4
        have ht := encs_take hi
        have hle := encs_len (L.take i)
        rw [List.length_take, Nat.min_eq_left (by omega)] at hle
        have hn : I64 (L.getD i 0) := hI _ (by rw [List.getD_eq_getElem?_getD, List.getElem?_eq_getElem hi]; exact List.getElem_mem hi)
        generalize L.getD i 0 = n at *
        simp [hi, g0, g3]
        refine Hx.mapp (number_ok hz.1.sl (by omega) hn) ?_
        rintro ⟨z', H4⟩ hz'
        rw [← ht] at hz'
        simp [hw]
        exact ⟨H4, z', rfl, hz'.1, hz.2.1.tr hz'.2.1, fun i hi => Nat.le_trans hz.2.1.1 (hz'.2.2 i hi)⟩
      · rintro _ ⟨H', z, rfl, hz⟩
        rw [List.take_length] at hz
        simp
        exact ⟨hz.1, hc.tr hz.2.1, fun i hi => Nat.le_trans hc.1 (hz.2.2 i hi)⟩
theorem New8.get {H0 H H' : AH} {v : AV} {bs : List Int} (h : New8 H H' v bs) {i : Nat} {A : AB} (e : H[i]? = some A) : H'[i]? = some A := h.2.1.get e (by simp)
theorem New8.back {H0 H1 H : AH} {v : AV} {bs : List Int} (h : New8 H1 H v bs) (c : Chg [] H0 H1) : New8 H0 H v bs := ⟨h.1, c.tr h.2.1, fun i hi => Nat.le_trans c.1 (h.2.2 i hi)⟩
theorem rput_ok {c : Cf} (h : SI H v c.ins) (hl : c.ins.length ≤ 1000000) (hf : FitC c) (hk : c.ins.length + 100 < k) : Hx (callA ap k (.func 10 [] []) [.agg (c.cs v)] 0 H) fun r => ∃ x, r.1 = .tuple [x, .int .i64 (if rightC c then 0 else 1)] ∧ New8 H r.2 x (if rightC c then putB c else []) := by
  obtain ⟨k, rfl⟩ : ∃ k', k = k' + 21 := ⟨k - 21, by omega⟩
  rw [hx_call fn10 rfl]
  simp [f10, b10, Cf.cs]
  obtain ⟨H1, e1⟩ : ∃ H1, H1 = H ++ [.cells (c.cs v) .rw] := ⟨_, rfl⟩
  have c1 : Chg [] H H1 := by rw [e1]; exact .app _ _
  have g1 : H1[H.length]? = some (.cells (c.cs v) .rw) := by rw [e1]; simp
  have hcs : [v, AV.int .i64 c.skin, AV.int .i64 c.times, AV.int .i64 c.port, AV.int .i64 c.bid, AV.int .i64 c.lot, AV.int .i64 c.hmin] = c.cs v := rfl
  rw [hcs, ← e1]
  refine Hx.mapp (rright_ok (h.keep c1) hl (by omega)) ?_
  rintro ⟨r, H2⟩ ⟨e, c2⟩
  simp only at e c2
  subst e
  have g1 := c2.get g1 (by simp)
  have c3 := c1.tr c2
  have h2 := h.keep c3
  obtain ⟨a, cp, s, rfl⟩ := h.form
  simp only [Cf.cs] at g1
  clear hcs
  cases hr : rightC c with
  | false =>
    simp [hr]
    exact ⟨.nil _ _, c3, by simp⟩
  | true =>
    have h6 := right_len hr
    simp [rowOf_rw g1]
    refine Hx.mapp (rnumber_ok (bs := []) (.nil _ _) (by simp) (n := (c.ins.length : Int)) ⟨by omega, by omega⟩) ?_
    rintro ⟨x, H3⟩ hx
    have hx : New8 H2 H3 x (encs ((c.ins.length : Int) :: flatI (c.ins.take 0))) := by
      have : encs ((c.ins.length : Int) :: flatI (c.ins.take 0)) = [] ++ enc (c.ins.length : Int) := by simp [encs, flatI]
      rw [this]; exact hx
    have hI := flat_i64 hr hf
    simp
    refine hx_up (fun i s' => ∃ H' x, s' = ⟨sp 67 [(1, .ptr (some (H.length, 0))), (4, x), (5, .int .i64 i)], H', []⟩ ∧ New8 H2 H' x (encs ((c.ins.length : Int) :: flatI (c.ins.take i)))) c.ins.length ?_ ?_ (by omega) ⟨_, _, rfl, hx⟩
    · clear hx
      rintro i _ hi ⟨H', x, rfl, hx⟩
      have hw : IntKind.i64.wrap ((i : Int) + 1) = ((i + 1 : Nat) : Int) := by rw [wrap_i64 (by omega) (by omega)]; omega
      have gx := hx.get (H0 := H) g1
      obtain ⟨b0, o0, c0, r0, e0, g0, g3, g4, -⟩ := SI.get (h2.keep hx.2.1) (get_d hi)
      injection e0 with z1 z2 z3 z4
      subst z1 z3 z4
      have ht := flatI_take hi
      have hle := encs_len ((c.ins.length : Int) :: flatI (c.ins.take i))
      rw [List.length_cons, flatI_len, List.length_take, Nat.min_eq_left (by omega)] at hle
      have hp : ∀ n ∈ c.ins[i].ns, I64 n := fun n hn => hI n (by
        simp only [flat, List.mem_append, List.mem_cons]
        exact .inl (.inr (List.mem_flatten.2 ⟨_, List.mem_map.2 ⟨_, List.getElem_mem hi, rfl⟩, hn⟩)))
      generalize c.ins[i] = p at *
      simp only [I4.cs] at g4
      simp only [I4.ns] at ht hp
      simp [hi, rowOf_rw gx, g0, g3, g4]
      refine hx_drawn dc10_8 fun H4 c4 hl4 hd4 => ?_
      have hb : H4[H'.length]? = some (.cells [.int .i64 p.b, .int .i64 p.p, .int .i64 p.r, .int .i64 p.s] .rw) := c4.get (by simp) (by simp)
      have hx4 := hx.keep ((Chg.app H' _).tr c4)
      simp [d10_8, rowOf_rw hb]
      refine Hx.mapp (rnumber_ok hx4.1.sl (by omega) (hp _ (by simp))) ?_
      rintro ⟨x5, H5⟩ hx5
      have hb5 := hx5.get (H0 := H) hb
      have l1 := enc_len p.b
      have l2 := enc_len p.p
      have l3 := enc_len p.r
      simp
      refine Hx.mapp (rnumber_ok hx5.1.sl (by simp; omega) (hp _ (by simp))) ?_
      rintro ⟨x6, H6⟩ hx6
      have hb6 := hx6.get (H0 := H) hb5
      simp
      refine Hx.mapp (rnumber_ok hx6.1.sl (by simp; omega) (hp _ (by simp))) ?_
      rintro ⟨x7, H7⟩ hx7
      have hb7 := hx7.get (H0 := H) hb6
      simp
      refine Hx.mapp (rnumber_ok hx7.1.sl (by simp; omega) (hp _ (by simp))) ?_
      rintro ⟨x8, H8⟩ hx8
      have hb8 := hx8.get (H0 := H) hb7
      have he : encs ((c.ins.length : Int) :: flatI (c.ins.take (i + 1))) = encs ((c.ins.length : Int) :: flatI (c.ins.take i)) ++ enc p.b ++ enc p.p ++ enc p.r ++ enc p.s := by
        rw [ht, ← List.cons_append, encs_app]
        simp [encs]
      simp [rowOf_rw hb5, rowOf_rw hb6, rowOf_rw hb7, rowOf_rw hb8, hw]
      exact ⟨H8, x8, rfl, by rw [he]; exact hx8.back (((hx4.2.1.tr hx5.2.1).tr hx6.2.1).tr hx7.2.1)⟩
    · clear hx
      rintro _ ⟨H', x, rfl, hx⟩
      rw [List.take_length] at hx
      have gx := hx.get (H0 := H) g1
      have hle := encs_len ((c.ins.length : Int) :: flatI c.ins)
      rw [List.length_cons, flatI_len] at hle
      obtain ⟨H4, e4⟩ : ∃ H4, H4 = H' ++ [.cells [.int .i64 c.skin, .int .i64 c.times, .int .i64 c.port, .int .i64 c.bid, .int .i64 c.lot, .int .i64 c.hmin] .rw] := ⟨_, rfl⟩
      have c4 : Chg [] H' H4 := by rw [e4]; exact .app _ _
      have sn : SN H4 (.slice (some (H'.length, 0)) 6 (some 6) 1) c.ends := .at_ _ 0 6 _ [.int .i64 c.skin, .int .i64 c.times, .int .i64 c.port, .int .i64 c.bid, .int .i64 c.lot, .int .i64 c.hmin] _ Nat.one_pos (by rw [e4]; simp) (by simp) (by simp [i64s, Cf.ends]) (by simp)
      simp [rowOf_rw gx]
      obtain ⟨m, hm⟩ : ∃ m, m = List.length H' := ⟨_, rfl⟩
      rw [← e4, ← hm]
      rw [← hm] at sn
      have hpb : putB c = encs ((c.ins.length : Int) :: flatI c.ins) ++ encs c.ends := by rw [← encs_app]; rfl
      have hI2 : ∀ n ∈ c.ends, I64 n := fun n hn => hI n (by simp only [flat, List.mem_append]; exact .inr hn)
      have h6e : c.ends.length = 6 := rfl
      rw [hpb]
      generalize c.ends = L at *
      refine hx_up (fun i s' => ∃ H' z, s' = ⟨sp 67 [(4, z), (7, .slice (some (m, 0)) 6 (some 6) 1), (8, .int .i64 i)], H', []⟩ ∧ Chg [] H4 H' ∧ New8 H2 H' z (encs ((c.ins.length : Int) :: flatI c.ins) ++ encs (L.take i))) 6 ?_ ?_ (by omega) ⟨H4, x, rfl, .refl, by simpa [encs] using hx.keep c4⟩
      · clear hx
        rintro i _ hi ⟨H5, z, rfl, c5, hz⟩
        have hw : IntKind.i64.wrap ((i : Int) + 1) = ((i + 1 : Nat) : Int) := by rw [wrap_i64 (by omega) (by omega)]; omega
        have hi6 : (i : Int) < 6 := by omega
        obtain ⟨b0, o0, c0, r0, e0, g0, g3⟩ := SN.get (sn.keep c5) (i := i) (by omega)
        rw [h6e] at e0
        injection e0 with z1 z2 z3 z4
        injection z1 with z1
        injection z1 with z1 z5
        subst z1 z5 z3
        rw [Nat.zero_add] at g3
        have ht := encs_take (l := L) (i := i) (by omega)
        have hl2 := encs_len (L.take i)
        rw [List.length_take, Nat.min_eq_left (by omega)] at hl2
        have hn : I64 (L.getD i 0) := hI2 _ (by rw [List.getD_eq_getElem?_getD, List.getElem?_eq_getElem (by omega)]; exact List.getElem_mem _)
        generalize L.getD i 0 = n at *
        simp [hi6, g0, g3]
        refine Hx.mapp (rnumber_ok hz.1.sl (by simp; omega) hn) ?_
        rintro ⟨z', H6⟩ hz'
        rw [List.append_assoc, ← ht] at hz'
        simp [hw]
        exact ⟨H6, z', rfl, c5.tr hz'.2.1, hz'.back hz.2.1⟩
      · clear hx
        rintro _ ⟨H5, z, rfl, c5, hz⟩
        rw [List.take_of_length_le (by omega)] at hz
        simp
        exact hz.back c3
end
end Go.Proofs.Ytndgfpknegoleaa.T
