import Derived.Test.YtinehdoenhodoaaA6
/-! The records of bytes: Clone, Walk. -/
set_option linter.unusedVariables false
set_option linter.unusedSimpArgs false
set_option maxHeartbeats 4000000
set_option maxRecDepth 100000
namespace Go.Proofs.Ytinehdoenhodoaa.T.Fm
open Go Go.Ab
def pos (bs : List Int) : Nat → Nat
  | 0 => 0
  | j + 1 => pos bs j + (nxt (bs.drop (pos bs j))).2.1
def rcd (bs : List Int) (j : Nat) : List Int := (nxt (bs.drop (pos bs j))).1
def okAt (bs : List Int) (j : Nat) : Bool := (nxt (bs.drop (pos bs j))).2.2 == 0
def nrecF (bs : List Int) : Nat → Nat → Nat
  | 0, j => j
  | f + 1, j => if okAt bs j then nrecF bs f (j + 1) else j
def nrec (bs : List Int) : Nat := nrecF bs (bs.length + 1) 0
theorem nxt_ok {bs : List Int} (h : (nxt bs).2.2 = 0) : (nxt bs).1.length + 6 = (nxt bs).2.1 ∧ (nxt bs).2.1 ≤ bs.length ∧ (nxt bs).1.length ≤ 400 ∧ ∀ x ∈ (nxt bs).1, x ∈ bs := by
  unfold nxt at h ⊢
  split at h
  · simp at h
  · split at h
    · simp at h
    · split at h
      · simp at h
      · split at h
        · rename_i h1 h2 h3 h4
          simp only [h1, h2, h3, h4, if_true, if_false]
          simp
          refine ⟨by omega, by omega, by omega, fun x hx => List.mem_of_mem_drop (List.mem_of_mem_take hx)⟩
        · simp at h
theorem nxt_byt {bs : List Int} (hb : Byt bs) : Byt (nxt bs).1 := by
  unfold nxt
  split
  · exact byt_nil
  · split
    · exact byt_nil
    · split
      · exact byt_nil
      · split
        · exact (hb.drop _).take _
        · exact byt_nil
theorem pos_le {bs : List Int} : ∀ j, (∀ i, i < j → okAt bs i = true) → 6 * j ≤ pos bs j ∧ pos bs j ≤ bs.length
  | 0, _ => by simp [pos]
  | j + 1, h => by
    have ih := pos_le j (fun i hi => h i (by omega))
    have h1 := h j (by omega)
    simp only [okAt, beq_iff_eq] at h1
    have h2 := nxt_ok h1
    simp at h2
    simp only [pos]
    omega
theorem nrecF_spec {bs : List Int} : ∀ f j, (∀ i, i < j → okAt bs i = true) → bs.length + 1 ≤ f + j → (∀ i, i < nrecF bs f j → okAt bs i = true) ∧ okAt bs (nrecF bs f j) = false
  | 0, j, h, hf => by
    have := pos_le j h
    omega
  | f + 1, j, h, hf => by
    unfold nrecF
    cases hj : okAt bs j with
    | true =>
      rw [if_pos rfl]
      refine nrecF_spec f (j + 1) (fun i hi => ?_) (by omega)
      by_cases hij : i = j
      · subst hij; exact hj
      · exact h i (by omega)
    | false => rw [if_neg (by simp)]; exact ⟨h, hj⟩
theorem nrec_ok {bs : List Int} {i : Nat} (h : i < nrec bs) : okAt bs i = true := (nrecF_spec (bs.length + 1) 0 (by simp) (by omega)).1 i h
theorem nrec_no (bs : List Int) : okAt bs (nrec bs) = false := (nrecF_spec (bs.length + 1) 0 (by simp) (by omega)).2
theorem nrec_pos {bs : List Int} {j : Nat} (h : j ≤ nrec bs) : 6 * j ≤ pos bs j ∧ pos bs j ≤ bs.length := pos_le j fun i hi => nrec_ok (by omega)
theorem rcd_byt {bs : List Int} (h : Byt bs) {i : Nat} (hi : i < nrec bs) : Byt (rcd bs i) := fun x hx => by
  have h1 := nrec_ok hi
  simp only [okAt, beq_iff_eq] at h1
  exact h x (List.mem_of_mem_drop ((nxt_ok h1).2.2.2 x hx))

theorem clone_ok {H : AH} {v : AV} {bs : List Int} (h : B8 H v bs) (hl : bs.length ≤ 100000000000000) {k : Nat} :
    Hx (callA ap (k + 1) (.func 22 [] []) [v] 0 H) fun r => Chg [] H r.2 ∧ B8 r.2 r.1 bs ∧ ∀ i ∈ blk r.1, H.length ≤ i := by
  rw [hx_go fn22 rfl, b22]
  obtain ⟨a, c, s, rfl⟩ := h.len8
  cases a with
  | none =>
    simp [f22, b22, eqV]
    refine ⟨.refl, ?_⟩
    generalize hn : bs.length = n at h
    have : bs = [] := by
      have g := h.bs
      cases g
      rfl
    subst this
    exact .nil _ _
  | some p =>
    have ow : Mine (H ++ [.cells [] .rw]) 1 (.slice (some (H.length, 0)) 0 (some 0) 1) [] := Mine.new (l := []) (n := 0) (c := some 0) Nat.one_pos rfl (by simp) (by simp)
    simp [f22, b22, eqV]
    refine Hx.mapp (ow.append (h.keep (.app _ _)) Nat.one_pos Nat.one_pos u8s_one (by simp [room]; omega)) ?_
    rintro ⟨v6, H6⟩ ⟨o6, c6, k6⟩
    simp
    refine ⟨(Chg.app H _).trans c6 (by simp), by simpa using o6.sl, fun i hi => ?_⟩
    rcases k6 i hi with hi | hi
    · simp at hi; omega
    · simp at hi; omega

def walkA (bs : List Int) (j : Nat) (H : AH) (a : List AV) : Prop := ∃ x, a = [.int .i64 (pos bs j), x] ∧ B8 H x (rcd bs j)
def walkI (c m : Nat) (bs : List Int) (H : AH) : Prop := ∃ v, H[c]? = some (.cells [v] .rw) ∧ B8 H v bs ∧ ∀ i ∈ blk v, m ≤ i
theorem walk1_goes {bs : List Int} (hb : Byt bs) (hl : bs.length ≤ 100000000000000) {k c l m : Nat} {H0 : AH} (hk : bs.length + 30 < k) : Goes ap k (nrec bs) (.func 23 [] [.ptr (some (c, 0))]) (walkA bs) (walkI c m bs) H0 l := by
  intro J D hJ hD hI hround h0
  rw [hx_go fn23 rfl, b23]
  have hnp := nrec_pos (bs := bs) (Nat.le_refl _)
  simp [f23, b23]
  refine hx_up (fun i s => ∃ H', s = ⟨sp 27 [(0, .yield l), (1, .ptr (some (c, 0))), (3, .int .i64 (pos bs i))], H', []⟩ ∧ J i H') (nrec bs) ?_ ?_ (by omega) ⟨H0, by simp [maskS, pos], h0⟩
  · rintro i s hi ⟨H1, rfl, hJ1⟩
    obtain ⟨v, i1, i2, i3⟩ := hI _ _ hJ1
    have hp := nrec_pos (bs := bs) (j := i) (by omega)
    obtain ⟨a, c0, s0, rfl⟩ := i2.len8
    obtain ⟨v2, a2, s2, _, _⟩ := i2.cut8 (low := some (.int .i64 (pos bs i))) (high := none) (lo := pos bs i) (hi := bs.length) hp.2 (Nat.le_refl _) (by simp [lowIs]) (by simp [highIs])
    rw [List.take_length] at s2
    simp [rowOf, i1, a2]
    refine Hx.mapp (next_ok s2 (hb.drop _) (by simp; omega) (by simp; omega)) ?_
    rintro ⟨r, H2⟩ ⟨hc2, x, rfl, hx, hfr⟩
    have hok := nrec_ok hi
    simp only [okAt, beq_iff_eq] at hok
    simp [hok]
    refine Hx.mapp (hround i hi H2 _ (hJ _ _ _ hJ1 hc2) ⟨x, rfl, hx⟩) ?_
    rintro ⟨r, H3⟩ (⟨h1, h2⟩ | ⟨h1, h2⟩)
    · simp only at h1 h2
      subst h1
      have h3 := nxt_ok hok
      simp at h3
      have w : IntKind.i64.wrap ((pos bs i : Int) + ((nxt (bs.drop (pos bs i))).2.1 : Int)) = (pos bs (i + 1) : Int) := by
        simp only [pos]
        rw [wrap_i64 (by omega) (by omega)]
        omega
      simp [w, maskS]
      exact h2
    · simp only at h1 h2
      subst h1
      simp
      exact .inr h2
  · rintro s ⟨H1, rfl, hJ1⟩
    obtain ⟨v, i1, i2, i3⟩ := hI _ _ hJ1
    obtain ⟨a, c0, s0, rfl⟩ := i2.len8
    obtain ⟨v2, a2, s2, _, _⟩ := i2.cut8 (low := some (.int .i64 (pos bs (nrec bs)))) (high := none) (lo := pos bs (nrec bs)) (hi := bs.length) hnp.2 (Nat.le_refl _) (by simp [lowIs]) (by simp [highIs])
    rw [List.take_length] at s2
    simp [rowOf, i1, a2]
    refine Hx.mapp (next_ok s2 (hb.drop _) (by simp; omega) (by simp; omega)) ?_
    rintro ⟨r, H2⟩ ⟨hc2, x, rfl, hx, hfr⟩
    have hno := nrec_no bs
    simp only [okAt, beq_eq_false_iff_ne, ne_eq] at hno
    simp [hno]
    exact .inl (hJ _ _ _ hJ1 hc2)

/-- The function that goes through the records of bytes. -/
theorem walk_ok {H : AH} {v : AV} {bs : List Int} (h : B8 H v bs) (hl : bs.length ≤ 100000000000000) {k : Nat} :
    Hx (callA ap (k + 2) (.func 17 [] []) [v] 0 H) fun r => Chg [] H r.2 ∧ ∃ c, r.1 = .func 23 [] [.ptr (some (c, 0))] ∧ H.length ≤ c ∧ walkI c H.length bs r.2 := by
  rw [hx_go fn17 rfl, b17]
  simp [f17, b17]
  refine Hx.mapp (clone_ok h hl) ?_
  rintro ⟨v2, H2⟩ ⟨hc, hv, hf⟩
  simp only at hc hv
  obtain ⟨a, c, s, rfl⟩ := hv.len8
  simp [rowRw]
  exact ⟨hc.tr (.app _ _), hc.1, _, by simp, hv.keep (.app _ _), hf⟩

/-! the document's -/
/-- A slice of slices of bytes. -/
def BB (H : AH) (v : AV) (ls : List (List Int)) : Prop := ∃ vs, SL H 1 v vs ∧ vs.length = ls.length ∧ ∀ i, i < ls.length → ∀ x, vs[i]? = some x → B8 H x (ls.getD i [])
theorem records_ok {H : AH} {v : AV} {bs : List Int} (h : B8 H v bs) (hb : Byt bs) (hl : bs.length ≤ 10000000000000) {k : Nat} (hk : bs.length + 30 < k) :
    Hx (callA ap k (.func 21 [] []) [v] 0 H) fun r => Chg [] H r.2 ∧ ∃ x y, r.1 = .tuple [x, y, .int .i64 (pos bs (nrec bs))] ∧
      SL r.2 1 x ((List.range (nrec bs)).map fun i => .int .i64 (pos bs i)) ∧ BB r.2 y ((List.range (nrec bs)).map (rcd bs)) := by
  obtain ⟨k, rfl⟩ : ∃ k', k = k' + 1 := ⟨k - 1, by omega⟩
  rw [hx_go fn21 rfl, b21]
  have hnp := nrec_pos (bs := bs) (Nat.le_refl _)
  obtain ⟨a, c, s0, rfl⟩ := h.len8
  simp [f21, b21]
  refine hx_up (fun i s => ∃ H' x y vs, s = ⟨sp 35 [(0, .slice a bs.length c s0), (5, x), (6, y), (7, .int .i64 (pos bs i))], H', []⟩ ∧ Chg [] H H' ∧ (∀ b ∈ blk x, H.length ≤ b ∧ b ∉ blk y) ∧ (∀ b ∈ blk y, H.length ≤ b) ∧
      Mine H' 1 x ((List.range i).map fun i => .int .i64 (pos bs i)) ∧ Mine H' 1 y vs ∧ vs.length = i ∧ ∀ j, j < i → ∃ z, vs[j]? = some z ∧ B8 H' z (rcd bs j) ∧ ∀ b ∈ blk z, b ∉ blk x ∧ b ∉ blk y) (nrec bs) ?_ ?_ (by omega) ?_
  · rintro i s hi ⟨H1, x, y, vs, rfl, hc1, fx, fy, mx, my, hvl, hel⟩
    have hp := nrec_pos (bs := bs) (j := i) (by omega)
    obtain ⟨v2, a2, s2, _, _⟩ := (h.keep hc1).cut8 (low := some (.int .i64 (pos bs i))) (high := none) (lo := pos bs i) (hi := bs.length) hp.2 (Nat.le_refl _) (by simp [lowIs]) (by simp [highIs])
    rw [List.take_length] at s2
    simp [a2]
    refine Hx.mapp (ref_ok s2 (hb.drop _) (by simp; omega) (by simp; omega)) ?_
    rintro ⟨r, H2⟩ ⟨hc2, z, rfl, hz, fz⟩
    have hok := nrec_ok hi
    simp only [okAt, beq_iff_eq] at hok
    have h3 := nxt_ok hok
    simp at h3
    simp only at hc2 hz
    have one : AV.one z = true ∧ ∃ a n c s, z = .slice a n c s := by obtain ⟨a, c, s, rfl⟩ := hz.len8; exact ⟨rfl, _, _, _, _, rfl⟩
    obtain ⟨one, az, nz, cz, sz, rfl⟩ := one
    have w : IntKind.i64.wrap ((pos bs i : Int) + ((nxt (bs.drop (pos bs i))).2.1 : Int)) = (pos bs (i + 1) : Int) := by
      simp only [pos]
      rw [wrap_i64 (by omega) (by omega)]
      omega
    have l1 := hc1.1
    have l2 := hc2.1
    simp [hok]
    refine Hx.mapp (((mx.keep hc2).keep (.app _ _)).append (SL.mk Nat.one_pos (l := [.int .i64 (pos bs i)]) (by simp [rowOf]) (by simp) (by simp)) Nat.one_pos (by omega) (by simp) (by simp [room]; omega)) ?_
    rintro ⟨x', H3⟩ ⟨mx', cx, kx⟩
    simp only at mx' cx kx
    have l3 := cx.1
    simp only [List.length_append, List.length_cons, List.length_nil] at l3 kx
    simp [one]
    have my3 : Mine H3 1 y vs := ((my.keep hc2).keep (.app _ _)).chg cx (fun b hb hx => (fx b hx).2 hb)
    refine Hx.mapp ((my3.keep (.app _ _)).append (SL.mk Nat.one_pos (l := [.slice az nz cz sz]) (by simp [rowOf]) (by simp) (by simp)) Nat.one_pos (by omega) (by simp) (by simp [room]; omega)) ?_
    rintro ⟨y', H4⟩ ⟨my', cy, ky⟩
    simp only at my' cy ky
    simp only [List.length_append, List.length_cons, List.length_nil] at ky
    have lx := mx.lt
    have ly := my.lt
    have c3 : Chg (blk x) H2 (H3 ++ [.cells [.slice az nz cz sz] .rw]) := (((Chg.app _ _).trans cx (fun i hi => .inl hi))).tr (.app _ _)
    have c4 : Chg (blk x ++ blk y) H2 H4 := (c3.mono (fun i hi => .inl (by simp [hi]))).trans cy (fun i hi => .inl (by simp [hi]))
    have mx3 := mx'.lt
    simp [w]
    refine ⟨H4, x', y', (by simp [maskS]), ((hc1.tr hc2).trans c4 fun b hb => ?_), fun b hb => ?_, fun b hb => ?_, ?_, vs ++ [.slice az nz cz sz], my', by simp [hvl], fun j hj => ?_⟩
    · rcases List.mem_append.1 hb with hb | hb
      · exact .inr (fx b hb).1
      · exact .inr (fy b hb)
    · have hb3 := mx3 b hb
      refine ⟨?_, fun hy => ?_⟩
      · rcases kx b hb with hb | hb
        · exact (fx b hb).1
        · omega
      · rcases ky b hy with hy | hy
        · rcases kx b hb with hb | hb
          · exact (fx b hb).2 hy
          · have := ly b hy; omega
        · omega
    · rcases ky b hb with hb | hb
      · exact fy b hb
      · omega
    · have := (mx'.keep (.app _ [.cells [.slice az nz cz sz] .rw])).chg cy (fun b hb hy => by
        rcases kx b hb with hb | hb
        · exact (fx b hb).2 hy
        · have := ly b hy; omega)
      rw [List.range_succ, List.map_append]
      exact this
    · have hnot : ∀ b, b < H2.length → b ∉ blk x → b ∉ blk y → b ∉ blk x' ∧ b ∉ blk y' := fun b h1 h2 h3 => ⟨fun hx => by
        rcases kx b hx with hx | hx
        · exact h2 hx
        · omega, fun hy => by
        rcases ky b hy with hy | hy
        · exact h3 hy
        · omega⟩
      by_cases hji : j < i
      · obtain ⟨z', e1, e2, e3⟩ := hel j hji
        refine ⟨z', by rw [List.getElem?_append_left (by omega)]; exact e1, (e2.keep hc2).chg c4 (fun b hb h => ?_), fun b hb => ?_⟩
        · rcases List.mem_append.1 h with h | h
          · exact (e3 b hb).1 h
          · exact (e3 b hb).2 h
        · have := (e2.keep hc2).lt b hb
          exact hnot b this (e3 b hb).1 (e3 b hb).2
      · obtain rfl : j = i := by omega
        have hzl := hz.lt
        have hz1 : ∀ b ∈ blk (.slice az nz cz sz), b ∉ blk x ∧ b ∉ blk y := fun b hb => ⟨fun h => by
          have := lx b h; have := fz b hb; omega, fun h => by
          have := ly b h; have := fz b hb; omega⟩
        refine ⟨_, by rw [List.getElem?_append_right (by omega)]; simp [hvl], hz.chg c4 (fun b hb h => ?_), fun b hb => hnot b (hzl b hb) (hz1 b hb).1 (hz1 b hb).2⟩
        rcases List.mem_append.1 h with h | h
        · exact (hz1 b hb).1 h
        · exact (hz1 b hb).2 h
  · rintro s ⟨H1, x, y, vs, rfl, hc1, fx, fy, mx, my, hvl, hel⟩
    obtain ⟨v2, a2, s2, _, _⟩ := (h.keep hc1).cut8 (low := some (.int .i64 (pos bs (nrec bs)))) (high := none) (lo := pos bs (nrec bs)) (hi := bs.length) hnp.2 (Nat.le_refl _) (by simp [lowIs]) (by simp [highIs])
    rw [List.take_length] at s2
    simp [a2]
    refine Hx.mapp (ref_ok s2 (hb.drop _) (by simp; omega) (by simp; omega)) ?_
    rintro ⟨r, H2⟩ ⟨hc2, z, rfl, hz, fz⟩
    have hno := nrec_no bs
    simp only [okAt, beq_eq_false_iff_ne, ne_eq] at hno
    simp [hno]
    refine ⟨hc1.tr hc2, x, y, ⟨rfl, rfl⟩, mx.sl.keep hc2, vs, (my.sl.keep hc2), by simp [hvl], fun j hj z hz => ?_⟩
    obtain ⟨z', e1, e2, e3⟩ := hel j (by simpa using hj)
    rw [e1] at hz
    cases hz
    have hj' : j < nrec bs := by simpa using hj
    simpa [List.getD_eq_getElem?_getD, hj'] using e2.keep hc2
  · refine ⟨H, .slice none 0 (some 0) 0, .slice none 0 (some 0) 0, [], by simp [maskS, pos], .refl, by simp, by simp, .nil _ _, .nil _ _, rfl, by simp⟩
end Go.Proofs.Ytinehdoenhodoaa.T.Fm
