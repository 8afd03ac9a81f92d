import Derived.Test.YtpohdapcbcjidaaB2
/-! What is done to two tapes; are they alike? -/
set_option linter.unusedVariables false
set_option linter.unusedSimpArgs false
set_option maxHeartbeats 4000000
set_option maxRecDepth 100000
namespace Go.Proofs.Ytpohdapcbcjidaa.T
open Go Go.Ab
def eqT (t r : TS) : Prop := r = t ∨ (t.armed = false ∧ ∃ w, r = { t with writes := w })
theorem appT_eq {t r : TS} (h : eqT t r) (xs : List Int) : (appT t xs).1 = (appT r xs).1 ∧ eqT (appT t xs).2 (appT r xs).2 := by
  rcases h with rfl | ⟨ha, w, rfl⟩
  · exact ⟨rfl, .inl rfl⟩
  · cases hd : t.down
    · by_cases hr : t.room < t.bs.length + xs.length
      · simp [appT, hd, hr]
        exact .inr ⟨by simp [ha], w, by simp [hd, ha]⟩
      · simp [appT, hd, hr, lastT, ha]
        exact .inr ⟨by simp [ha], w, by simp [hd, ha]⟩
    · simp [appT, hd]
      exact .inr ⟨by simp [ha], w, by simp [hd, ha]⟩
theorem cutT_eq {t r : TS} (h : eqT t r) (n : Int) : (cutT t n).1 = (cutT r n).1 ∧ eqT (cutT t n).2 (cutT r n).2 := by
  rcases h with rfl | ⟨ha, w, rfl⟩
  · exact ⟨rfl, .inl rfl⟩
  · cases hd : t.down
    · by_cases hr : n < 0 ∨ t.bs.length < n
      · simp [cutT, hd, hr]
        exact .inr ⟨by simp [ha], w, by simp [hd, ha]⟩
      · simp [cutT, hd, hr, lastT, ha]
        exact .inr ⟨by simp [ha], w, by simp [hd, ha]⟩
    · simp [cutT, hd]
      exact .inr ⟨by simp [ha], w, by simp [hd, ha]⟩
theorem arm_eq {t r : TS} (h : eqT t r) (w k : Int) : eqT (armT t w k) (armR r w k) := by
  rcases h with rfl | ⟨ha, u, rfl⟩
  · unfold armT armR
    cases hd : r.down
    · by_cases hw : 0 ≤ w
      · rw [Int.max_eq_left hw]
        exact .inl rfl
      · refine .inr ⟨by simp [hw], max w 0, by simp [hd]⟩
    · exact .inl rfl
  · unfold armT armR
    cases hd : t.down
    · by_cases hw : 0 ≤ w
      · rw [Int.max_eq_left hw]
        exact .inl rfl
      · refine .inr ⟨by simp [hw], max w 0, by simp [hd]⟩
    · exact .inr ⟨by simpa using ha, u, by simp [hd]⟩
theorem wake_eq {t r : TS} (h : eqT t r) : eqT (wakeT t) (wakeT r) := by
  rcases h with rfl | ⟨ha, u, rfl⟩
  · exact .inl rfl
  · exact .inr ⟨rfl, u, rfl⟩
theorem eqT.obs {t r : TS} (h : eqT t r) : r.bs = t.bs ∧ r.room = t.room ∧ r.down = t.down := by
  rcases h with rfl | ⟨ha, u, rfl⟩ <;> exact ⟨rfl, rfl, rfl⟩
structure Act where
  kd : Int
  xs : List Int
  n : Int
  kp : Int
def doT (t : TS) (a : Act) : TS := if a.kd.tmod 5 = 0 then (appT t a.xs).2 else if a.kd.tmod 5 = 1 then (cutT t a.n).2 else if a.kd.tmod 5 = 2 then t else if a.kd.tmod 5 = 3 then armT t a.n a.kp else wakeT t
def doR (t : TS) (a : Act) : TS := if a.kd.tmod 5 = 0 then (appT t a.xs).2 else if a.kd.tmod 5 = 1 then (cutT t a.n).2 else if a.kd.tmod 5 = 2 then t else if a.kd.tmod 5 = 3 then armR t a.n a.kp else wakeT t
theorem do_eq {t r : TS} (h : eqT t r) (a : Act) : eqT (doT t a) (doR r a) := by
  unfold doT doR
  split
  · exact (appT_eq h _).2
  · split
    · exact (cutT_eq h _).2
    · split
      · exact h
      · split
        · exact arm_eq h _ _
        · exact wake_eq h
/-- Two tapes that were made behind H0: nothing is shared. -/
structure Pair (H0 H : AH) (p : Nat) (v : AV) (t : TS) (q : Nat) (u : AV) (r : TS) : Prop where
  chg : Chg [] H0 H
  left : At false H p v t
  right : At true H q u r
  hp : H0.length ≤ p
  hq : H0.length ≤ q
  hv : ∀ b ∈ blk v, H0.length ≤ b
  hu : ∀ b ∈ blk u, H0.length ≤ b
  pq : p ≠ q
  pu : p ∉ blk u
  qv : q ∉ blk v
  vu : ∀ b ∈ blk v, b ∉ blk u
section
variable {H0 H H' : AH} {p q : Nat} {v u : AV} {t t' r r' : TS}
theorem Pair.keep (P : Pair H0 H p v t q u r) (c : Chg [] H H') : Pair H0 H' p v t q u r := ⟨P.chg.tr c, P.left.keep c, P.right.keep c, P.hp, P.hq, P.hv, P.hu, P.pq, P.pu, P.qv, P.vu⟩
theorem Pair.stepL (P : Pair H0 H p v t q u r) (s : Step false H p v t' H') : ∃ v', Pair H0 H' p v' t' q u r := by
  obtain ⟨v', h1, h2, h3⟩ := s
  have lu := P.right.mine.lt
  have lq := P.right.lt
  have hl := P.chg.1
  refine ⟨v', ⟨P.chg.trans h2 (fun i hi => .inr ?_), h1, P.right.chg h2 ?_ ?_, P.hp, P.hq, fun b hb => ?_, P.hu, P.pq, P.pu, fun hb => ?_, fun b hb hb2 => ?_⟩⟩
  · rcases List.mem_cons.1 hi with rfl | hi
    · exact P.hp
    · exact P.hv i hi
  · simp only [List.mem_cons, not_or]
    exact ⟨fun e => P.pq e.symm, P.qv⟩
  · intro i hi
    simp only [List.mem_cons, not_or]
    exact ⟨fun e => P.pu (e ▸ hi), fun h => P.vu i h hi⟩
  · rcases h3 b hb with hb | hb
    · exact P.hv b hb
    · omega
  · rcases h3 q hb with hb | hb
    · exact P.qv hb
    · omega
  · rcases h3 b hb with hb | hb
    · exact P.vu b hb hb2
    · have := lu b hb2; omega
theorem Pair.stepR (P : Pair H0 H p v t q u r) (s : Step true H q u r' H') : ∃ u', Pair H0 H' p v t q u' r' := by
  obtain ⟨u', h1, h2, h3⟩ := s
  have lv := P.left.mine.lt
  have lp := P.left.lt
  have hl := P.chg.1
  refine ⟨u', ⟨P.chg.trans h2 (fun i hi => .inr ?_), P.left.chg h2 ?_ ?_, h1, P.hp, P.hq, P.hv, fun b hb => ?_, P.pq, fun hb => ?_, P.qv, fun b hb hb2 => ?_⟩⟩
  · rcases List.mem_cons.1 hi with rfl | hi
    · exact P.hq
    · exact P.hu i hi
  · simp only [List.mem_cons, not_or]
    exact ⟨P.pq, P.pu⟩
  · intro i hi
    simp only [List.mem_cons, not_or]
    exact ⟨fun e => P.qv (e ▸ hi), P.vu i hi⟩
  · rcases h3 b hb with hb | hb
    · exact P.hu b hb
    · omega
  · rcases h3 p hb with hb | hb
    · exact P.pu hb
    · omega
  · rcases h3 b hb2 with hb2 | hb2
    · exact P.vu b hb hb2
    · have := lv b hb; omega
theorem Pair.make (n : Int) : Pair H0 (H0 ++ [.cells (tcells (.slice none 0 (some 0) 0) ⟨[], min (max n 0) 1048576, false, false, 0, 0⟩) .rw, .cells (rcells (.slice none 0 (some 0) 0) ⟨[], min (max n 0) 1048576, false, false, 0, 0⟩) .rw])
    H0.length (.slice none 0 (some 0) 0) ⟨[], min (max n 0) 1048576, false, false, 0, 0⟩ (H0.length + 1) (.slice none 0 (some 0) 0) ⟨[], min (max n 0) 1048576, false, false, 0, 0⟩ :=
  ⟨.app _ _, ⟨by simp [cellsOf], .nil _ _, by simp, by simp; omega, by simp only; omega, by simp⟩, ⟨by simp [cellsOf], .nil _ _, by simp, by simp; omega, by simp only; omega, by simp⟩, by omega, by omega, by simp, by simp, by omega, by simp, by simp, by simp⟩

/-- The bytes. -/
def byT (t : TS) : Prop := Byt t.bs
theorem byT_do {t : TS} (h : byT t) {a : Act} (ha : Byt a.xs) : byT (doT t a) := by
  have hl := (lastT_bs t).1
  unfold doT
  split
  · unfold appT
    split
    · exact h
    · split
      · exact h
      · split
        · exact Byt.app h (ha.take _)
        · exact Byt.app h ha
  · split
    · unfold cutT
      split
      · exact h
      · split
        · exact h
        · split
          · split
            · exact Byt.take h _
            · unfold byT; rw [hl]; exact h
          · exact Byt.take h _
    · split
      · exact h
      · split
        · unfold armT; split <;> exact h
        · exact h

variable {k : Nat}
theorem alike_ok (P : Pair H0 H p v t q u r) (e : eqT t r) (hb : byT t) : Hx (callA ap (k + 4) (.func 19 [] []) [.ptr (some (p, 0)), .ptr (some (q, 0))] 0 H) fun x => x.1 = .bool true ∧ Chg [] H x.2 := by
  rw [hx_call fn19 rfl]
  obtain ⟨eb, er, ed⟩ := e.obs
  simp [f19, b19]
  refine Hx.mapp (copy_ok P.left) ?_
  rintro ⟨_, H1⟩ ⟨rfl, c1, w, gc, fw⟩
  simp only at c1 gc fw
  simp
  refine hx_drawn dc19_2 fun H2 c2 _ _ => ?_
  have P2 := P.keep (c1.tr c2)
  have gc2 := gc.keep c2
  obtain ⟨a, c, s, rfl⟩ := P2.right.form
  have row := rowOf_rw P2.right.row
  simp only [cellsOf, rcells, if_true, eb, er, ed] at row
  simp [d19_2, eqV, row, len_ok P2.left, room_ok P2.left, down_ok P2.left, down_ok gc2]
  refine Hx.mapp (wake_ok gc2) ?_
  rintro ⟨_, H3⟩ ⟨rfl, w3, g3, c3, f3⟩
  simp only at g3 c3 f3
  simp
  have c23 : Chg [] H H3 := (c1.tr c2).trans c3 (fun i hi => .inr (by
    rcases List.mem_cons.1 hi with rfl | hi
    · exact Nat.le_refl _
    · have := fw i hi; omega))
  refine Hx.mapp (read_ok g3) ?_
  rintro ⟨_, H4⟩ ⟨c4, x, rfl, mx, fx⟩
  simp only [wakeT, Bool.false_eq_true, if_false] at c4 mx fx
  simp [wakeT]
  refine hx_drawn dc19_6 fun H5 c5 _ _ => ?_
  have P5 := P.keep ((c23.tr c4).tr c5)
  have row5 := rowOf_rw P5.right.row
  have t1 := toStr_b8 (P5.right.mine.sl)
  have t2 := toStr_b8 (mx.sl.keep c5)
  rw [eb] at t1
  simp only [cellsOf, rcells, if_true, eb, er, ed] at row5
  have qq := strN_beq hb hb
  simp [d19_6, row5, t1, t2, qq]
  exact (c23.tr c4).tr c5
end
end Go.Proofs.Ytpohdapcbcjidaa.T
