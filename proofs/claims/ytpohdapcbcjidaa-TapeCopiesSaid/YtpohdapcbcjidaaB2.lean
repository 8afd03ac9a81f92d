import Derived.Test.YtpohdapcbcjidaaB1
/-! Tapes: the document's. -/
set_option linter.unusedVariables false
set_option linter.unusedSimpArgs false
set_option maxHeartbeats 4000000
set_option maxRecDepth 100000
namespace Go.Proofs.Ytpohdapcbcjidaa.T
open Go Go.Ab
def armR (t : TS) (w k : Int) : TS := if t.down then t else { t with armed := decide (0 ≤ w), writes := max w 0, keep := k }
section
variable {k lo : Nat} {H : AH} {p : Nat} {v : AV} {t : TS}
theorem rnew_ok {n : Int} : callA ap (k + 1) (.func 18 [] []) [.int .i64 n] lo H = some (.ptr (some (H.length, 0)), H ++ [.cells (rcells (.slice none 0 (some 0) 0) ⟨[], min (max n 0) 1048576, false, false, 0, 0⟩) .rw]) := by
  rw [← Hx_eq, hx_call fn18 rfl]
  have : (if (1048576 : Int) < (if n < 0 then 0 else n) then (1048576 : Int) else if n < 0 then 0 else n) = min (max n 0) 1048576 := by split <;> split <;> omega
  simp [f18, b18, amm, amm1, this, rcells]
theorem rarm_ok (h : At true H p v t) {w x : Int} (hw : w ≤ 9223372036854775807) : Hx (callA ap (k + 1) (.func 29 [] []) [.ptr (some (p, 0)), .int .i64 w, .int .i64 x] 0 H) fun r => r.1 = .tuple [] ∧ Step true H p v (armR t w x) r.2 := by
  rw [hx_call fn29 rfl]
  cases hd : t.down with
  | true =>
    simp [f29, b29, eqV, rowOf_rw h.row, cellsOf, rcells, hd, armR]
    exact .refl h .refl
  | false =>
    have : (if w < 0 then 0 else w) = max w 0 := by split <;> omega
    simp [f29, b29, eqV, rowOf_rw h.row, rowRw_rw h.row, rowRw_self h.lt, cellsOf, rcells, hd, armR, amm, amm1, this]
    exact .turn h .refl rfl rfl (by simp only; omega) rfl
theorem rwake_ok (h : At true H p v t) : Hx (callA ap (k + 1) (.func 30 [] []) [.ptr (some (p, 0))] 0 H) fun r => r.1 = .tuple [] ∧ Step true H p v (wakeT t) r.2 := by
  rw [hx_call fn30 rfl]
  simp [f30, b30, eqV, rowOf_rw h.row, rowRw_rw h.row, rowRw_self h.lt, cellsOf, rcells, wakeT]
  exact .turn h .refl rfl rfl h.bound rfl
theorem rlast_ok (h : At true H p v t) : Hx (callA ap (k + 1) (.func 31 [] []) [.ptr (some (p, 0))] 0 H) fun r => r.1 = .bool (lastT t).1 ∧ At true r.2 p v (lastT t).2 ∧ Chg [p] H r.2 := by
  rw [hx_call fn31 rfl]
  cases ha : t.armed with
  | false =>
    simp [f31, b31, eqV, rowOf_rw h.row, cellsOf, rcells, ha, lastT]
    exact ⟨h, .refl⟩
  | true =>
    by_cases hw : 0 < t.writes
    · have hw1 : IntKind.i64.wrap (t.writes - 1) = t.writes - 1 := wrap_i64 (by omega) (by have := h.bound; omega)
      simp [f31, b31, eqV, rowOf_rw h.row, rowRw_rw h.row, cellsOf, rcells, ha, lastT, hw, hw1]
      exact ⟨h.turn (t' := { t with armed := true, writes := t.writes - 1 }) rfl rfl (by have := h.bound; simp only; omega), .set _ _ _⟩
    · simp [f31, b31, eqV, rowOf_rw h.row, rowRw_rw h.row, rowRw_self h.lt, cellsOf, rcells, ha, lastT, hw]
      exact ⟨h.turn (t' := { t with armed := false, down := true }) rfl rfl h.bound, .set _ _ _⟩
theorem rread_ok (h : At true H p v t) : Hx (callA ap (k + 2) (.func 28 [] []) [.ptr (some (p, 0))] 0 H) fun r => Chg [] H r.2 ∧ ∃ x, r.1 = .tuple [x, .int .i64 (if t.down then 15 else 0)] ∧ Mine r.2 1 x (u8s (if t.down then [] else t.bs)) ∧ ∀ i ∈ blk x, H.length ≤ i := by
  rw [hx_call fn28 rfl]
  have := h.small
  have := h.top
  cases hd : t.down with
  | true =>
    simp [f28, b28, eqV, rowOf_rw h.row, cellsOf, rcells, hd]
    exact ⟨.refl, .nil _ _⟩
  | false =>
    have ow : Mine (H ++ [.cells [] .rw]) 1 (.slice (some (H.length, 0)) 0 (some 0) 1) [] := Mine.new (l := []) (n := 0) (c := some 0) Nat.one_pos rfl (by simp) (by simp)
    have h1 := h.keep (Chg.app H [.cells [] .rw])
    simp [f28, b28, eqV, rowOf_rw h.row, rowOf_rw h1.row, cellsOf, rcells, hd]
    refine Hx.mapp (ow.append h1.mine.sl Nat.one_pos Nat.one_pos u8s_one (by simp [room]; omega)) ?_
    rintro ⟨x, H2⟩ ⟨m2, c2, k2⟩
    simp
    refine ⟨(Chg.app H _).trans c2 (by simp), by simpa using m2, fun i hi => ?_⟩
    rcases k2 i hi with hi | hi
    · simp at hi; omega
    · simp at hi; omega
theorem rcopy_ok (h : At true H p v t) : Hx (callA ap (k + 2) (.func 22 [] []) [.ptr (some (p, 0))] 0 H) fun r => r.1 = .ptr (some (H.length, 0)) ∧ Chg [] H r.2 ∧ ∃ v', At true r.2 H.length v' t ∧ ∀ i ∈ blk v', H.length < i := by
  rw [hx_call fn22 rfl]
  have := h.small
  have := h.top
  obtain ⟨a, c, s, rfl⟩ := h.form
  have c1 : Chg [] H (H ++ [.cells (rcells (.slice a t.bs.length c s) t) .rw, .cells [] .rw]) := .app _ _
  have h1 := h.keep c1
  have g : (H ++ [.cells (rcells (.slice a t.bs.length c s) t) .rw, .cells [] .rw])[p]? = some (.cells (rcells (.slice a t.bs.length c s) t) .rw) := c1.get h.row (by simp)
  have gH : (H ++ [.cells (rcells (.slice a t.bs.length c s) t) .rw, .cells [] .rw])[H.length]? = some (.cells (rcells (.slice a t.bs.length c s) t) .rw) := by simp
  have ow : Mine (H ++ [.cells (rcells (.slice a t.bs.length c s) t) .rw, .cells [] .rw]) 1 (.slice (some (H.length + 1, 0)) 0 (some 0) 1) [] := .row _ 0 (some 0) [] _ Nat.one_pos (by simp) (by simp) (by simp) (by simp)
  simp only [rcells] at g c1 gH h1 ow
  simp [f22, b22, eqV, rowOf_rw h.row, cellsOf, rcells, rowRw]
  simp [rowOf_rw g]
  refine Hx.mapp (ow.append h1.mine.sl Nat.one_pos Nat.one_pos u8s_one (by simp [room]; omega)) ?_
  rintro ⟨x, H2⟩ ⟨m2, c2, k2⟩
  simp only at m2 c2 k2
  rw [List.nil_append] at m2
  obtain ⟨ax, cx, sx, rfl⟩ := m2.sl.len8
  have g2 := c2.get gH (by simp)
  have hlt := lt_of_get g2
  have k3 : ∀ i ∈ blk (.slice ax t.bs.length cx sx), H.length < i := fun i hi => by
    rcases k2 i hi with hi | hi
    · simp at hi; omega
    · simp at hi; omega
  simp [rowRw_rw g2]
  refine ⟨(c1.trans c2 (by simp)).trans (.set _ _ _) (by simp), .slice ax t.bs.length cx sx, ⟨by rw [List.getElem?_set_self hlt]; rfl, m2.chg (.set _ _ _) (fun i hi => by have := k3 i hi; simp; omega), fun hi => by have := k3 _ hi; omega, h.small, h.top, h.bound⟩, k3⟩
theorem rappend_ok (h : At true H p v t) {x : AV} {xs : List Int} (hx : B8 H x xs) (hxp : p ∉ blk x) (hl : xs.length ≤ 1000) :
    Hx (callA ap (k + 2) (.func 26 [] []) [.ptr (some (p, 0)), x] 0 H) fun r => r.1 = .int .i64 (appT t xs).1 ∧ Step true H p v (appT t xs).2 r.2 := by
  rw [hx_call fn26 rfl]
  have h1 := h.small
  have h2 := h.top
  obtain ⟨a, c, s, rfl⟩ := h.form
  obtain ⟨ax, cx, sx, rfl⟩ := hx.len8
  cases hd : t.down with
  | true =>
    simp [f26, b26, eqV, rowOf_rw h.row, cellsOf, rcells, hd, appT]
    exact .refl h .refl
  | false =>
    have w1 : IntKind.i64.wrap (t.room - (t.bs.length : Int)) = t.room - (t.bs.length : Int) := wrap_i64 (by omega) (by omega)
    simp [f26, b26, eqV, rowOf_rw h.row, cellsOf, rcells, hd]
    refine hx_drawn dc26_3 fun H1 c1 _ _ => ?_
    have h' := h.keep c1
    by_cases hr : t.room < t.bs.length + xs.length
    · have hr' : t.room - (t.bs.length : Int) < xs.length := by omega
      simp [d26_3, rowOf_rw h'.row, cellsOf, rcells, w1, hr', appT, hd, hr]
      exact .refl h c1
    have hr' : ¬ t.room - (t.bs.length : Int) < xs.length := by omega
    simp [d26_3, rowOf_rw h'.row, cellsOf, rcells, w1, hr', hd]
    refine Hx.mapp (rlast_ok h') ?_
    rintro ⟨r, H2⟩ ⟨rfl, g2, c2⟩
    simp only at g2 c2
    have hx2 := (hx.keep c1).chg c2 (fun i hi => by simp; exact fun e => hxp (e ▸ hi))
    obtain ⟨lb, lr, lk⟩ := lastT_bs t
    have l2 := g2.lt
    cases hl1 : (lastT t).1 with
    | false =>
      have ow : Mine (H2 ++ [.cells [] .rw]) 1 (.slice (some (H2.length, 0)) 0 (some 0) 1) [] := Mine.new (l := []) (n := 0) (c := some 0) Nat.one_pos rfl (by simp) (by simp)
      have g2' := g2.keep (Chg.app H2 [.cells [] .rw])
      simp [rowOf_rw g2.row, rowOf_rw g2'.row, cellsOf, rcells]
      have m2 := g2'.mine
      rw [lb] at m2
      refine Hx.mapp (ow.append m2.sl Nat.one_pos Nat.one_pos u8s_one (by simp [room]; omega)) ?_
      rintro ⟨v4, H4⟩ ⟨m4, c4, k4⟩
      simp only at m4 c4 k4
      have c24 : Chg [] H2 H4 := (Chg.app H2 _).trans c4 (by simp)
      simp
      refine Hx.mapp (m4.append (hx2.keep c24) Nat.one_pos Nat.one_pos u8s_one (by simp [room]; omega)) ?_
      rintro ⟨v5, H5⟩ ⟨m5, c5, k5⟩
      simp only at m5 c5 k5
      have f4 : ∀ b ∈ blk v4, H2.length ≤ b := fun b hb => by
        rcases k4 b hb with hb | hb
        · simp at hb; omega
        · simp at hb; omega
      have c25 : Chg [] H2 H5 := c24.trans c5 (fun i hi => .inr (f4 i hi))
      have f5 : ∀ b ∈ blk v5, H2.length ≤ b := fun b hb => by
        rcases k5 b hb with hb | hb
        · exact f4 b hb
        · have := c24.1; omega
      have g5 := c25.get g2.row (by simp)
      have one : AV.one v5 = true ∧ ∃ a n c s, v5 = .slice a n c s := by obtain ⟨a, n, c, s, rfl, _⟩ := m5.sl.form; exact ⟨rfl, _, _, _, _, rfl⟩
      obtain ⟨one, a6, n6, c6, s6, rfl⟩ := one
      simp [rowRw_rw g5, cellsOf, rcells, one, appT, hd, hr, hl1]
      refine .put g2 (c1.nil.tr' c2) c25.nil (t' := { (lastT t).2 with bs := t.bs ++ xs }) (by rw [u8s_app]; exact m5) (fun b hb => .inr (f5 b hb)) ?_ (by simp only [lr]; exact h2) g2.bound rfl
      simp only [List.length_append, lr]
      omega
    | true =>
      simp
      refine hx_drawn dc26_6 fun H3 c3 hl3 hd3 => ?_
      have hcl := cl_eq t.keep xs.length
      have hle := cl_le t.keep xs.length
      have hd31 := hd3 1 (by simp [d26_6])
      have c3' : Chg [] H2 (H3.set (H2.length + 1) (.cells [] .rw)) := c3.trans (.set _ _ _) (by simp)
      have ow : Mine (H3.set (H2.length + 1) (.cells [] .rw)) 1 (.slice (some (H2.length + 1, 0)) 0 (some 0) 1) [] := .row _ 0 (some 0) [] _ Nat.one_pos (List.getElem?_set_self (lt_of_get hd31)) (by simp) (by simp) (by simp)
      simp [d26_6, hd31]
      generalize (H3.set (H2.length + 1) (.cells [] .rw)) = H4 at *
      have g4 := g2.keep c3'
      have m4 := g4.mine
      rw [lb] at m4
      obtain ⟨v4, a4, s4, k4, _⟩ := (hx2.keep c3').cut8 (low := none) (high := some (.int .i64 (cl t.keep xs.length))) (lo := 0) (hi := cl t.keep xs.length) (Nat.zero_le _) hle (by simp [lowIs]) (by simp [highIs])
      rw [List.drop_zero] at s4
      simp [rowOf_rw g4.row, cellsOf, rcells, amm, amm1, lk, hcl, a4]
      refine Hx.mapp (ow.append m4.sl Nat.one_pos Nat.one_pos u8s_one (by simp [room]; omega)) ?_
      rintro ⟨v5, H5⟩ ⟨m5, c5, k5⟩
      simp only at m5 c5 k5
      have f5 : ∀ b ∈ blk v5, H2.length ≤ b := fun b hb => by
        rcases k5 b hb with hb | hb
        · simp at hb; omega
        · have := c3'.1; omega
      have c25 : Chg [] H2 H5 := c3'.trans c5 (by simp)
      simp
      refine Hx.mapp (m5.append (s4.chg c5 (fun i hi => ?_)) Nat.one_pos Nat.one_pos u8s_one (by simp [room]; omega)) ?_
      · have := hx2.lt i (k4 i hi)
        simp; omega
      rintro ⟨v6, H6⟩ ⟨m6, c6, k6⟩
      simp only at m6 c6 k6
      have c26 : Chg [] H2 H6 := c25.trans c6 (fun i hi => .inr (f5 i hi))
      have f6 : ∀ b ∈ blk v6, H2.length ≤ b := fun b hb => by
        rcases k6 b hb with hb | hb
        · exact f5 b hb
        · have := c25.1; omega
      have g6 := c26.get g2.row (by simp)
      have one : AV.one v6 = true ∧ ∃ a n c s, v6 = .slice a n c s := by obtain ⟨a, n, c, s, rfl, _⟩ := m6.sl.form; exact ⟨rfl, _, _, _, _, rfl⟩
      obtain ⟨one, a7, n7, c7, s7, rfl⟩ := one
      have g5 := (g2.keep c25)
      have a5 := aslice_chg (F := blk (.slice (some (H2.length + 1, 0)) 0 (some 0) 1)) c5 (fun i hi => by have := hx2.lt i hi; simp; omega) a4
      simp [rowRw_rw g6, rowOf_rw g5.row, cellsOf, rcells, one, appT, hd, hr, hl1, a5, lk]
      have q := Step.put (H' := _) g2 (c1.nil.tr' c2) c26.nil (t' := { (lastT t).2 with bs := t.bs ++ xs.take (cl t.keep xs.length) }) (by rw [u8s_app]; exact m6) (fun b hb => .inr (f6 b hb)) (by simp only [List.length_append, List.length_take, lr]; omega) (by simp only [lr]; exact h2) g2.bound rfl
      simp only [cellsOf, rcells, lk, if_true] at q
      exact q
theorem rcut_ok (h : At true H p v t) {n : Int} : Hx (callA ap (k + 2) (.func 27 [] []) [.ptr (some (p, 0)), .int .i64 n] 0 H) fun r => r.1 = .int .i64 (cutT t n).1 ∧ Step true H p v (cutT t n).2 r.2 := by
  rw [hx_call fn27 rfl]
  have h1 := h.small
  have h2 := h.top
  obtain ⟨a, c, s, rfl⟩ := h.form
  cases hd : t.down with
  | true =>
    simp [f27, b27, eqV, rowOf_rw h.row, cellsOf, rcells, hd, cutT]
    exact .refl h .refl
  | false =>
    by_cases hn : n < 0
    · simp [f27, b27, eqV, rowOf_rw h.row, cellsOf, rcells, hd, hn, cutT]
      exact .refl h .refl
    by_cases hn2 : t.bs.length < n
    · simp [f27, b27, eqV, rowOf_rw h.row, cellsOf, rcells, hd, hn, hn2, cutT]
      exact .refl h .refl
    obtain ⟨m, rfl⟩ := Int.eq_ofNat_of_zero_le (by omega : 0 ≤ n)
    have hm : m ≤ t.bs.length := by omega
    have hm' : ¬ t.bs.length < m := by omega
    have hn' : ¬ (m : Int) < 0 := by omega
    simp [f27, b27, eqV, rowOf_rw h.row, cellsOf, rcells, hd, hm', hn']
    refine Hx.mapp (rlast_ok h) ?_
    rintro ⟨r, H2⟩ ⟨rfl, g2, c2⟩
    simp only at g2 c2
    obtain ⟨lb, lr, lk⟩ := lastT_bs t
    have ow : Mine (H2 ++ [.cells [] .rw]) 1 (.slice (some (H2.length, 0)) 0 (some 0) 1) [] := Mine.new (l := []) (n := 0) (c := some 0) Nat.one_pos rfl (by simp) (by simp)
    have g3 := g2.keep (Chg.app H2 [.cells [] .rw])
    have m3 := g3.mine
    rw [lb] at m3
    obtain ⟨v4, a4, m4, k4⟩ := m3.cut8 (high := some (.int .i64 m)) hm (by simp [highIs])
    have key : Hx (aappend 0 (H2 ++ [.cells [] .rw]) 1 1 (.slice (some (H2.length, 0)) 0 (some 0) 1) v4) fun r => ∃ a6 n6 c6 s6, r.1 = .slice a6 n6 c6 s6 ∧ rowRw r.2 0 p = some (cellsOf true (.slice a t.bs.length c s) (lastT t).2) ∧
        Step true H p (.slice a t.bs.length c s) { (lastT t).2 with bs := t.bs.take m } (r.2.set p (.cells (cellsOf true (.slice a6 n6 c6 s6) { (lastT t).2 with bs := t.bs.take m }) .rw)) := by
      refine (ow.append m4.sl Nat.one_pos Nat.one_pos u8s_one (by simp [room]; omega)).mono ?_
      rintro ⟨v5, H5⟩ ⟨m5, c5, k5⟩
      simp only at m5 c5 k5
      rw [List.nil_append] at m5
      have l2 := g2.lt
      have c25 : Chg [] H2 H5 := (Chg.app H2 _).trans c5 (by simp)
      obtain ⟨a6, n6, c6, s6, rfl, _⟩ := m5.sl.form
      refine ⟨a6, n6, c6, s6, rfl, rowRw_rw (c25.get g2.row (by simp)), .put g2 c2 c25.nil (t' := { (lastT t).2 with bs := t.bs.take m }) m5 (fun b hb => .inr ?_) (by simp only [List.length_take, lr]; omega) (by simp only [lr]; exact h2) g2.bound rfl⟩
      rcases k5 b hb with hb | hb
      · simp at hb; omega
      · simp at hb; omega
    cases hl1 : (lastT t).1 with
    | false =>
      have gr := rowOf_rw g3.row
      simp only [cellsOf, rcells, if_true] at gr
      simp [rowOf_rw g2.row, gr, cellsOf, rcells, a4]
      refine Hx.mapp key ?_
      rintro ⟨v5, H5⟩ ⟨a6, n6, c6, s6, rfl, e1, e2⟩
      simp only [cellsOf, rcells, if_true] at e1 e2
      simp [e1, cutT, hd, hm', hn', hl1]
      exact e2
    | true =>
      by_cases hk : 0 < t.keep
      · have gr := rowOf_rw g3.row
        simp only [cellsOf, rcells, if_true, lk] at gr
        simp [rowOf_rw g2.row, gr, cellsOf, rcells, a4, lk, hk]
        refine Hx.mapp key ?_
        rintro ⟨v5, H5⟩ ⟨a6, n6, c6, s6, rfl, e1, e2⟩
        simp only [cellsOf, rcells, if_true, lk] at e1 e2
        simp [e1, cutT, hd, hm', hn', hl1, hk, lk]
        exact e2
      · simp [rowOf_rw g2.row, cellsOf, rcells, cutT, hd, hm', hn', hl1, lk, hk]
        exact ⟨_, g2, c2.mono (by simp), fun b hb => .inl hb⟩
end
end Go.Proofs.Ytpohdapcbcjidaa.T
