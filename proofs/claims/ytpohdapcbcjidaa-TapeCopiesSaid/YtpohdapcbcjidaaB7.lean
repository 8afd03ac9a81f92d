import Derived.Test.YtpohdapcbcjidaaB4
/-! TapeCopies. -/
set_option linter.unusedVariables false
set_option linter.unusedSimpArgs false
set_option maxHeartbeats 4000000
set_option maxRecDepth 100000
namespace Go.Proofs.Ytpohdapcbcjidaa.T
open Go Go.Ab
/-- What was turned since K: the two tapes alone. -/
def Foot (K : AH) (p : Nat) (v0 : AV) (q : Nat) (u0 : AV) (H : AH) (v u : AV) : Prop := Chg (p :: (blk v0 ++ q :: blk u0)) K H ∧ (∀ b ∈ blk v, b ∈ blk v0 ∨ K.length ≤ b) ∧ (∀ b ∈ blk u, b ∈ blk u0 ∨ K.length ≤ b)
section
variable {H0 H H' K : AH} {p q : Nat} {v u v0 u0 : AV} {t t' r r' : TS} {k : Nat}
theorem Foot.refl (c : Chg [] K H) : Foot K p v q u H v u := ⟨c.nil, fun b h => .inl h, fun b h => .inl h⟩
theorem Foot.keep (f : Foot K p v0 q u0 H v u) (c : Chg [] H H') : Foot K p v0 q u0 H' v u := ⟨f.1.tr c, f.2⟩
theorem Pair.stepL2 (P : Pair H0 H p v t q u r) (s : Step false H p v t' H') (f : Foot K p v0 q u0 H v u) : ∃ v', Pair H0 H' p v' t' q u r ∧ Foot K p v0 q u0 H' v' u := by
  obtain ⟨v', h1, h2, h3⟩ := s
  have lu := P.right.mine.lt
  have lq := P.right.lt
  have hl := P.chg.1
  obtain ⟨f1, f2, f3⟩ := f
  refine ⟨v', ⟨P.chg.trans h2 (fun i hi => .inr ?_), h1, P.right.chg h2 ?_ ?_, P.hp, P.hq, fun b hb => ?_, P.hu, P.pq, P.pu, fun hb => ?_, fun b hb hb2 => ?_⟩, f1.trans h2 (fun i hi => ?_), fun b hb => ?_, f3⟩
  · rcases List.mem_cons.1 hi with rfl | hi
    · exact P.hp
    · exact P.hv i hi
  · simp only [List.mem_cons, not_or]
    exact ⟨fun e => P.pq e.symm, P.qv⟩
  · intro i hi
    simp only [List.mem_cons, not_or]
    exact ⟨fun e => P.pu (e ▸ hi), fun h => P.vu i h hi⟩
  · rcases h3 b hb with hb | hb
    · exact P.hv b hb
    · omega
  · rcases h3 q hb with hb | hb
    · exact P.qv hb
    · omega
  · rcases h3 b hb with hb | hb
    · exact P.vu b hb hb2
    · have := lu b hb2; omega
  · rcases List.mem_cons.1 hi with rfl | hi
    · exact .inl (by simp)
    · rcases f2 i hi with h | h
      · exact .inl (by simp [h])
      · exact .inr h
  · rcases h3 b hb with hb | hb
    · exact f2 b hb
    · exact .inr (Nat.le_trans f1.1 hb)
theorem Pair.stepR2 (P : Pair H0 H p v t q u r) (s : Step true H q u r' H') (f : Foot K p v0 q u0 H v u) : ∃ u', Pair H0 H' p v t q u' r' ∧ Foot K p v0 q u0 H' v u' := by
  obtain ⟨u', h1, h2, h3⟩ := s
  have lv := P.left.mine.lt
  have lp := P.left.lt
  have hl := P.chg.1
  obtain ⟨f1, f2, f3⟩ := f
  refine ⟨u', ⟨P.chg.trans h2 (fun i hi => .inr ?_), P.left.chg h2 ?_ ?_, h1, P.hp, P.hq, P.hv, fun b hb => ?_, P.pq, fun hb => ?_, P.qv, fun b hb hb2 => ?_⟩, f1.trans h2 (fun i hi => ?_), f2, fun b hb => ?_⟩
  · rcases List.mem_cons.1 hi with rfl | hi
    · exact P.hq
    · exact P.hu i hi
  · simp only [List.mem_cons, not_or]
    exact ⟨P.pq, P.pu⟩
  · intro i hi
    simp only [List.mem_cons, not_or]
    exact ⟨fun e => P.qv (e ▸ hi), P.vu i hi⟩
  · rcases h3 b hb with hb | hb
    · exact P.hu b hb
    · omega
  · rcases h3 p hb with hb | hb
    · exact P.pu hb
    · omega
  · rcases h3 b hb2 with hb2 | hb2
    · exact P.vu b hb hb2
    · have := lv b hb; omega
  · rcases List.mem_cons.1 hi with rfl | hi
    · exact .inl (by simp)
    · rcases f3 i hi with h | h
      · exact .inl (by simp [h])
      · exact .inr h
  · rcases h3 b hb with hb | hb
    · exact f3 b hb
    · exact .inr (Nat.le_trans f1.1 hb)
theorem do_foot (P : Pair H0 H p v t q u r) (e : eqT t r) (hb : byT t) {cs : List AV} {a : Act} (ha : ActC H0 cs a) (hl : a.xs.length ≤ 200) :
    Hx (callA ap (k + 4) (.func 20 [] []) [.ptr (some (p, 0)), .ptr (some (q, 0)), .agg cs] 0 H) fun x => x.1 = .bool true ∧ ∃ v' u', Pair H0 x.2 p v' (doT t a) q u' (doR r a) ∧ Foot H p v q u x.2 v' u' := by
  obtain ⟨x, rfl, hx, hxb, hkd, hn⟩ := ha
  obtain ⟨ax, cx, sx, rfl⟩ := hx.len8
  have hm0 := Int.tmod_nonneg 5 hkd.1
  have hm5 := Int.tmod_lt_of_pos a.kd (show (0 : Int) < 5 by omega)
  have hm1 : IntKind.u8.wrap (a.kd.tmod 5) = a.kd.tmod 5 := by rw [wrap_u8]; omega
  rw [hx_call fn20 rfl]
  have c1 : Chg [] H (H ++ [.cells [.int .u8 a.kd, .slice ax a.xs.length cx sx, .int .i64 a.n, .int .i64 a.kp] .rw]) := .app _ _
  have g1 : (H ++ [.cells [.int .u8 a.kd, .slice ax a.xs.length cx sx, .int .i64 a.n, .int .i64 a.kp] .rw])[H.length]? = some (.cells [.int .u8 a.kd, .slice ax a.xs.length cx sx, .int .i64 a.n, .int .i64 a.kp] .rw) := by simp
  have P1 := P.keep c1
  have F1 : Foot H p v q u _ v u := .refl c1
  have lp := P.left.lt
  have lq := P.right.lt
  have lv := P.left.mine.lt
  have lu := P.right.mine.lt
  unfold doT doR
  generalize hm : a.kd.tmod 5 = m at *
  have xp : ∀ i ∈ blk (.slice ax a.xs.length cx sx), i < H0.length := hx.lt
  simp [f20, b20, hm]
  generalize (H ++ [AB.cells [.int .u8 a.kd, .slice ax a.xs.length cx sx, .int .i64 a.n, .int .i64 a.kp] .rw]) = H1 at *
  by_cases h0 : m = 0
  · simp [h0, rowOf_rw g1]
    refine hx_drawn dc20_5 fun H2 c2 _ _ => ?_
    have P2 := P1.keep c2
    have F2 := F1.keep c2
    have g2 := c2.get g1 (by simp)
    simp [d20_5, rowOf_rw g2]
    refine Hx.mapp (append_ok P2.left (hx.keep P2.chg) (fun h => by have := xp _ h; have := P.hp; omega) (by omega)) ?_
    rintro ⟨_, H3⟩ ⟨rfl, s3⟩
    simp only at s3
    have g3 : H3[H.length]? = some (.cells [.int .u8 a.kd, .slice ax a.xs.length cx sx, .int .i64 a.n, .int .i64 a.kp] .rw) := by
      obtain ⟨_, _, c, _⟩ := s3
      refine c.get g2 (fun h => ?_)
      rcases List.mem_cons.1 h with h | h
      · omega
      · have := lv _ h; omega
    obtain ⟨v', P3, F3⟩ := P2.stepL2 s3 F2
    simp
    refine Hx.mapp (rappend_ok P3.right (hx.keep P3.chg) (fun h => by have := xp _ h; have := P.hq; omega) (by omega)) ?_
    rintro ⟨_, H4⟩ ⟨rfl, s4⟩
    simp only at s4
    obtain ⟨u', P4, F4⟩ := P3.stepR2 s4 F3
    simp [rowOf_rw g3, (appT_eq e a.xs).1]
    exact ⟨_, _, P4, F4⟩
  by_cases h1 : m = 1
  · simp [h1, rowOf_rw g1]
    refine hx_drawn dc20_7 fun H2 c2 _ _ => ?_
    have P2 := P1.keep c2
    have F2 := F1.keep c2
    have g2 := c2.get g1 (by simp)
    simp [d20_7, rowOf_rw g2]
    refine Hx.mapp (cut_ok P2.left) ?_
    rintro ⟨_, H3⟩ ⟨rfl, s3⟩
    simp only at s3
    have g3 : H3[H.length]? = some (.cells [.int .u8 a.kd, .slice ax a.xs.length cx sx, .int .i64 a.n, .int .i64 a.kp] .rw) := by
      obtain ⟨_, _, c, _⟩ := s3
      refine c.get g2 (fun h => ?_)
      rcases List.mem_cons.1 h with h | h
      · omega
      · have := lv _ h; omega
    obtain ⟨v', P3, F3⟩ := P2.stepL2 s3 F2
    simp
    refine Hx.mapp (rcut_ok P3.right) ?_
    rintro ⟨_, H4⟩ ⟨rfl, s4⟩
    simp only at s4
    obtain ⟨u', P4, F4⟩ := P3.stepR2 s4 F3
    simp [rowOf_rw g3, (cutT_eq e a.n).1]
    exact ⟨_, _, P4, F4⟩
  by_cases h2 : m = 2
  · obtain ⟨eb, er, ed⟩ := e.obs
    simp [h2, rowOf_rw g1]
    refine Hx.mapp (read_ok P1.left) ?_
    rintro ⟨_, H2⟩ ⟨c2, x2, rfl, m2, f2⟩
    simp only at c2 m2 f2
    have P2 := P1.keep c2
    have F2 := F1.keep c2
    simp
    refine Hx.mapp (rread_ok P2.right) ?_
    rintro ⟨_, H3⟩ ⟨c3, x3, rfl, m3, f3⟩
    simp only at c3 m3 f3
    have P3 := P2.keep c3
    have F3 := F2.keep c3
    rw [ed, eb] at m3
    have t2 := toStr_b8 (m2.sl.keep c3)
    have t3 := toStr_b8 m3.sl
    have hbb : Byt (if t.down then [] else t.bs) := by split; exact byt_nil; exact hb
    have qq := strN_beq hbb hbb
    generalize (if t.down = true then [] else t.bs) = bb at *
    simp [t2, t3, qq, ed]
    exact ⟨_, _, P3, F3⟩
  by_cases h3 : m = 3
  · simp [h3, rowOf_rw g1]
    refine Hx.mapp (arm_ok P1.left hn) ?_
    rintro ⟨_, H2⟩ ⟨rfl, s2⟩
    simp only at s2
    have g2 : H2[H.length]? = some (.cells [.int .u8 a.kd, .slice ax a.xs.length cx sx, .int .i64 a.n, .int .i64 a.kp] .rw) := by
      obtain ⟨_, _, c, _⟩ := s2
      refine c.get g1 (fun h => ?_)
      rcases List.mem_cons.1 h with h | h
      · omega
      · have := lv _ h; omega
    obtain ⟨v', P2, F2⟩ := P1.stepL2 s2 F1
    simp [rowOf_rw g2]
    refine Hx.mapp (rarm_ok P2.right hn) ?_
    rintro ⟨_, H3⟩ ⟨rfl, s3⟩
    simp only at s3
    obtain ⟨u', P3, F3⟩ := P2.stepR2 s3 F2
    simp
    exact ⟨_, _, P3, F3⟩
  · simp [h0, h1, h2, h3, rowOf_rw g1]
    refine Hx.mapp (wake_ok P1.left) ?_
    rintro ⟨_, H2⟩ ⟨rfl, s2⟩
    simp only at s2
    obtain ⟨v', P2, F2⟩ := P1.stepL2 s2 F1
    simp
    refine Hx.mapp (rwake_ok P2.right) ?_
    rintro ⟨_, H3⟩ ⟨rfl, s3⟩
    simp only at s3
    obtain ⟨u', P3, F3⟩ := P2.stepR2 s3 F2
    simp
    exact ⟨_, _, P3, F3⟩

/-- All acts, one behind the other. -/
def allT (t : TS) (l : List Act) : TS := l.foldl doT t
def allR (t : TS) (l : List Act) : TS := l.foldl doR t
theorem all_take {f : TS → Act → TS} {l : List Act} {i : Nat} (hi : i < l.length) (t : TS) : (l.take (i + 1)).foldl f t = f ((l.take i).foldl f t) l[i] := by
  rw [List.take_succ_eq_append_getElem hi, List.foldl_append]
  rfl
theorem all_eq {t r : TS} (h : eqT t r) : ∀ l : List Act, eqT (allT t l) (allR r l) := by
  intro l
  induction l generalizing t r with
  | nil => exact h
  | cons a l ih => exact ih (do_eq h a)
theorem all_byt {t : TS} (h : byT t) : ∀ l : List Act, (∀ a ∈ l, Byt a.xs) → byT (allT t l) := by
  intro l
  induction l generalizing t with
  | nil => intro _; exact h
  | cons a l ih => intro hl; exact ih (byT_do h (hl a (by simp))) (fun b hb => hl b (by simp [hb]))
/-- Another tape beside two. -/
def Apart (S : Nat) (w : AV) (p : Nat) (v : AV) (q : Nat) (u : AV) : Prop := ∀ b ∈ S :: blk w, b ∉ p :: (blk v ++ q :: blk u)
theorem Apart.step {S : Nat} {w : AV} {rs : TS} (h : Apart S w p v q u) (a : At true H S w rs) (f : Foot H p v q u H' v0 u0) : Apart S w p v0 q u0 ∧ At true H' S w rs := by
  obtain ⟨f1, f2, f3⟩ := f
  have lw := a.mine.lt
  have ls := a.lt
  refine ⟨fun b hb hm => ?_, a.chg f1 (h S (by simp)) (fun i hi => h i (by simp [hi]))⟩
  have hbl : b < H.length := by
    rcases List.mem_cons.1 hb with rfl | hb
    · exact ls
    · exact lw b hb
  have := h b hb
  simp only [List.mem_cons, List.mem_append, not_or] at this hm
  rcases hm with hm | hm | hm | hm
  · exact this.1 hm
  · rcases f2 b hm with hm | hm
    · exact this.2.1 hm
    · omega
  · exact this.2.2.1 hm
  · rcases f3 b hm with hm | hm
    · exact this.2.2.2 hm
    · omega
/-- An act of a row, at the heap of now. -/
theorem Acts.now {v : AV} {l : List Act} (h : Acts H0 v l) (c : Chg [] H0 H) {i : Nat} (hi : i < l.length) : ∃ b o cc rr x, v = .slice (some (b, o)) l.length cc 4 ∧ rowOf H b = some rr ∧ o + i * 4 + 4 ≤ rr.length ∧ (rr.drop (o + i * 4)).take 4 = x ∧ ActC H0 x l[i] := by
  obtain ⟨b, o, c', rr, x, e, g1, g2, g3, g4, ha⟩ := h.get hi
  exact ⟨b, o, c', rr, x, e, c.row g1 (by simp), g2, g3, ha⟩
theorem ActC.byt {cs : List AV} {a : Act} (h : ActC H cs a) : Byt a.xs := by obtain ⟨_, _, _, hb, _⟩ := h; exact hb
theorem Acts.byt {v : AV} {l : List Act} (h : Acts H0 v l) : ∀ a ∈ l, Byt a.xs := fun a ha => by
  obtain ⟨i, hi⟩ := List.getElem?_of_mem ha
  have hil : i < l.length := (List.getElem?_eq_some_iff.1 hi).1
  obtain ⟨b, o, c', rr, x, e, g1, g2, g3, g4, hx⟩ := h.get hil
  have : l[i] = a := by rw [List.getElem?_eq_getElem hil] at hi; exact Option.some.inj hi
  rw [this] at hx
  exact hx.byt
theorem tapeCopies_ok {room : Int} {va vb : AV} {l m : List Act} (h : Acts H0 va l) (g : Acts H0 vb m) : Hx (callA ap 2000 (.func 6 [] []) [.int .i64 room, va, vb] 0 H0) fun r => r.1 = .bool true := by
  rw [hx_call fn6 rfl]
  obtain ⟨a, c, s, rfl⟩ := h.form
  obtain ⟨a2, c2, s2, rfl⟩ := g.form
  simp [f6, b6, known_ok]
  refine Hx.mapp (light_ok h (by omega)) ?_
  rintro ⟨_, _⟩ ⟨e, ⟨hf, e2⟩ | ⟨hf, e2⟩⟩ <;> simp only at e e2 <;> replace e := e.symm <;> subst e <;> subst e2
  · simp
    refine Hx.mapp (light_ok g (by omega)) ?_
    rintro ⟨_, _⟩ ⟨e, ⟨gf, e2⟩ | ⟨gf, e2⟩⟩ <;> simp only at e e2 <;> replace e := e.symm <;> subst e <;> subst e2
    · have P := Pair.make (H0 := H0) room
      have n1 := fun lo H => @new_ok 1998 lo H room
      have n2 := fun lo H => @rnew_ok 1998 lo H room
      have hl60 := hf.1
      have gl60 := gf.1
      simp [n1, n2, eqV]
      generalize (H0 ++ [AB.cells (tcells (.slice none 0 (some 0) 0) ⟨[], min (max room 0) 1048576, false, false, 0, 0⟩) .rw, .cells (rcells (.slice none 0 (some 0) 0) ⟨[], min (max room 0) 1048576, false, false, 0, 0⟩) .rw]) = H1 at *
      generalize hT0 : (⟨[], min (max room 0) 1048576, false, false, 0, 0⟩ : TS) = T0 at *
      have bT0 : byT T0 := by rw [← hT0]; exact byt_nil
      refine hx_up (fun i st => ∃ H' v' u', st = ⟨sp 91 [(1, .slice a l.length c s), (2, .slice a2 m.length c2 s2), (7, .ptr (some (H0.length, 0))), (8, .ptr (some (H0.length + 1, 0))), (9, .int .i64 i)], H', []⟩ ∧ Pair H0 H' H0.length v' (allT T0 (l.take i)) (H0.length + 1) u' (allR T0 (l.take i))) l.length ?_ ?_ (by omega) ⟨H1, _, _, by simp [maskS], P⟩
      · rintro i st hi ⟨H3, v', u', rfl, P3⟩
        obtain ⟨b, o, c', rr, x, e, g1, g2, g3, ha⟩ := h.now P3.chg hi
        cases e
        have hi' : (i : Int) < l.length := by omega
        have w : IntKind.i64.wrap ((i : Int) + 1) = (i : Int) + 1 := wrap_i64 (by omega) (by omega)
        simp [hi', hi, g1, g2, g3]
        refine Hx.mapp (do_ok P3 (all_eq (.inl rfl) _) (all_byt bT0 _ (fun a ha => h.byt a (List.mem_of_mem_take ha))) ha (hf.2 i hi)) ?_
        rintro ⟨_, H4⟩ ⟨rfl, v4, u4, P4⟩
        simp only at P4
        have e1 : doT (allT T0 (l.take i)) l[i] = allT T0 (l.take (i + 1)) := (all_take hi T0).symm
        have e2 : doR (allR T0 (l.take i)) l[i] = allR T0 (l.take (i + 1)) := (all_take hi T0).symm
        rw [e1, e2] at P4
        simp [w, maskS]
        exact ⟨_, _, P4⟩
      · rintro st ⟨H3, v', u', rfl, P3⟩
        rw [List.take_length] at P3
        generalize hT1 : allT T0 l = T1 at *
        generalize hR1 : allR T0 l = R1 at *
        have eq1 : eqT T1 R1 := by rw [← hT1, ← hR1]; exact all_eq (.inl rfl) l
        have bT1 : byT T1 := by rw [← hT1]; exact all_byt bT0 _ h.byt
        simp
        refine Hx.mapp (copy_ok P3.left) ?_
        rintro ⟨_, H4⟩ ⟨rfl, c4, vc, gc, fc⟩
        simp only at c4 gc fc
        have P4 := P3.keep c4
        simp
        refine Hx.mapp (rcopy_ok P4.right) ?_
        rintro ⟨_, H5⟩ ⟨rfl, c5, us, gs, fs⟩
        simp only at c5 gs fs
        have P5 := P4.keep c5
        have gc5 := gc.keep c5
        have l34 := c4.1
        have lc := gc.lt
        have lvc := gc.mine.lt
        have Q5 : Pair H3 H5 H3.length vc T1 H4.length us R1 := ⟨c4.tr c5, gc5, gs, by omega, by omega, fun b hb => by have := fc b hb; omega, fun b hb => by have := fs b hb; omega, by omega, fun hb => by have := fs _ hb; omega, fun hb => by have := lvc _ hb; omega, fun b hb hb2 => by have := lvc b hb; have := fs b hb2; omega⟩
        simp [eqV]
        refine hx_up (fun i st => ∃ H' v2 u2, st = ⟨sp 91 [(2, .slice a2 m.length c2 s2), (7, .ptr (some (H0.length, 0))), (8, .ptr (some (H0.length + 1, 0))), (10, .ptr (some (H3.length, 0))), (11, .ptr (some (H4.length, 0))), (12, .int .i64 i)], H', []⟩ ∧ Pair H3 H' H3.length v2 (allT T1 (m.take i)) H4.length u2 (allR R1 (m.take i))) m.length ?_ ?_ (by omega) ⟨H5, _, _, by simp [maskS], Q5⟩
        · rintro i st hi ⟨H6, v2, u2, rfl, Q6⟩
          obtain ⟨b, o, c', rr, x, e, g1, g2, g3, ha⟩ := g.now (P3.chg.tr Q6.chg) hi
          cases e
          have hi' : (i : Int) < m.length := by omega
          have w : IntKind.i64.wrap ((i : Int) + 1) = (i : Int) + 1 := wrap_i64 (by omega) (by omega)
          simp [hi', hi, g1, g2, g3]
          refine Hx.mapp (do_ok Q6 (all_eq eq1 _) (all_byt bT1 _ (fun a ha => g.byt a (List.mem_of_mem_take ha))) (ha.keep P3.chg) (gf.2 i hi)) ?_
          rintro ⟨_, H7⟩ ⟨rfl, v4, u4, Q7⟩
          simp only at Q7
          have e1 : doT (allT T1 (m.take i)) m[i] = allT T1 (m.take (i + 1)) := (all_take hi T1).symm
          have e2 : doR (allR R1 (m.take i)) m[i] = allR R1 (m.take (i + 1)) := (all_take hi R1).symm
          rw [e1, e2] at Q7
          simp [w, maskS]
          exact ⟨_, _, Q7⟩
        · rintro st ⟨H6, v2, u2, rfl, Q6⟩
          rw [List.take_length] at Q6
          have eq2 : eqT (allT T1 m) (allR R1 m) := all_eq eq1 m
          have bT2 : byT (allT T1 m) := all_byt bT1 _ g.byt
          simp
          refine Hx.mapp (alike_ok Q6 eq2 bT2) ?_
          rintro ⟨_, H7⟩ ⟨rfl, c7⟩
          simp only at c7
          have Q7 := Q6.keep c7
          have P7 := P3.keep Q7.chg
          simp
          refine Hx.mapp (alike_ok P7 eq1 bT1) ?_
          rintro ⟨_, H8⟩ ⟨rfl, c8⟩
          simp only at c8
          have P8 := P7.keep c8
          have S8 := Q7.right.keep c8
          have lp3 := P3.left.lt
          have lq3 := P3.right.lt
          have lv3 := P3.left.mine.lt
          have lu3 := P3.right.mine.lt
          have A8 : Apart H4.length u2 H0.length v' (H0.length + 1) u' := fun b hb hm => by
            have hb3 : H3.length ≤ b := by
              rcases List.mem_cons.1 hb with rfl | hb
              · omega
              · exact Q7.hu b hb
            simp only [List.mem_cons, List.mem_append] at hm
            rcases hm with hm | hm | hm | hm
            · omega
            · have := lv3 b hm; omega
            · omega
            · have := lu3 b hm; omega
          have hS0 : H0.length ≤ H4.length := by have := P3.chg.1; omega
          have hu20 : ∀ b ∈ blk u2, H0.length ≤ b := fun b hb => by have := Q7.hu b hb; have := P3.chg.1; omega
          simp
          refine hx_up (fun i st => ∃ H' v3 u3, st = ⟨sp 91 [(2, .slice a2 m.length c2 s2), (7, .ptr (some (H0.length, 0))), (8, .ptr (some (H0.length + 1, 0))), (11, .ptr (some (H4.length, 0))), (13, .int .i64 i)], H', []⟩ ∧ Pair H0 H' H0.length v3 (allT T1 (m.take i)) (H0.length + 1) u3 (allR R1 (m.take i)) ∧ At true H' H4.length u2 (allR R1 m) ∧ Apart H4.length u2 H0.length v3 (H0.length + 1) u3) m.length ?_ ?_ (by omega) ⟨H8, _, _, by simp [maskS], P8, S8, A8⟩
          · rintro i st hi ⟨H9, v3, u3, rfl, P9, S9, A9⟩
            obtain ⟨b, o, c', rr, x, e, g1, g2, g3, ha⟩ := g.now P9.chg hi
            cases e
            have hi' : (i : Int) < m.length := by omega
            have w : IntKind.i64.wrap ((i : Int) + 1) = (i : Int) + 1 := wrap_i64 (by omega) (by omega)
            simp [hi', hi, g1, g2, g3]
            refine Hx.mapp (do_foot P9 (all_eq eq1 _) (all_byt bT1 _ (fun a ha => g.byt a (List.mem_of_mem_take ha))) ha (gf.2 i hi)) ?_
            rintro ⟨_, Ha⟩ ⟨rfl, v4, u4, Pa, Fa⟩
            simp only at Pa Fa
            obtain ⟨Aa, Sa⟩ := A9.step S9 Fa
            have e1 : doT (allT T1 (m.take i)) m[i] = allT T1 (m.take (i + 1)) := (all_take hi T1).symm
            have e2 : doR (allR R1 (m.take i)) m[i] = allR R1 (m.take (i + 1)) := (all_take hi R1).symm
            rw [e1, e2] at Pa
            simp [w, maskS]
            exact ⟨_, _, Pa, Sa, Aa⟩
          · rintro st ⟨H9, v3, u3, rfl, P9, S9, A9⟩
            rw [List.take_length] at P9
            have Pf : Pair H0 H9 H0.length v3 (allT T1 m) H4.length u2 (allR R1 m) := ⟨P9.chg, P9.left, S9, P9.hp, hS0, P9.hv, hu20, fun e => A9 H4.length (by simp) (by simp [← e]), fun hb => A9 _ (List.mem_cons_of_mem _ hb) (by simp), fun hb => A9 H4.length (by simp) (by simp [hb]), fun b hb hb2 => A9 b (List.mem_cons_of_mem _ hb2) (by simp [hb])⟩
            simp
            refine Hx.mapp (alike_ok Pf eq2 bT2) ?_
            rintro ⟨_, Hb⟩ ⟨rfl, cb⟩
            simp
    · simp
  · simp
theorem tapeCopies_main (H : AH) (ass : List (List AV)) (hl : ass.length = [3, 36, 36].length) (ha : ∀ (i : Nat) t al, [3, 36, 36][i]? = some t → ass[i]? = some al → AR ap 6 H t al) :
    Hx (callA ap 2000 (.func 6 [] []) (List.zipWith (argA ap) [3, 36, 36] ass) 0 H) fun r => r.1 = .bool true := by
  match ass, hl with
  | [a0, a1, a2], _ =>
    obtain ⟨z, rfl, _⟩ := ar_int (ha 0 3 a0 rfl rfl) ty3 rfl
    obtain ⟨v, l, rfl, h1⟩ := ar_acts (ha 1 36 a1 rfl rfl)
    obtain ⟨v2, l2, rfl, h2⟩ := ar_acts (ha 2 36 a2 rfl rfl)
    simp only [List.zipWith_cons_cons, List.zipWith_nil_right, argA_one ty3 rfl, argA_one ty36 rfl]
    exact tapeCopies_ok h1 h2
end
end Go.Proofs.Ytpohdapcbcjidaa.T
