import Derived.Test.YtpohdapcbcjidaaAbK
import Derived.Test.YtpohdapcbcjidaaAbD
import Derived.Test.YtpohdapcbcjidaaAb25
/-! Tapes: the program's. -/
set_option linter.unusedVariables false
set_option linter.unusedSimpArgs false
set_option maxHeartbeats 4000000
set_option maxRecDepth 100000
namespace Go.Proofs.Ytpohdapcbcjidaa.T
open Go Go.Ab
structure TS where
  bs : List Int
  room : Int
  armed : Bool
  down : Bool
  writes : Int
  keep : Int
def tcells (v : AV) (t : TS) : List AV := [v, .int .i64 t.room, .bool t.armed, .bool t.down, .int .i64 t.writes, .int .i64 t.keep]
def rcells (v : AV) (t : TS) : List AV := [v, .int .i64 t.room, .bool t.armed, .int .i64 t.writes, .int .i64 t.keep, .bool t.down]
/-- A tape in memory: the program's (false), the document's (true). -/
def cellsOf (ref : Bool) (v : AV) (t : TS) : List AV := if ref then rcells v t else tcells v t
structure At (ref : Bool) (H : AH) (p : Nat) (v : AV) (t : TS) : Prop where
  row : H[p]? = some (.cells (cellsOf ref v t) .rw)
  mine : Mine H 1 v (u8s t.bs)
  ne : p ∉ blk v
  small : (t.bs.length : Int) ≤ t.room
  top : t.room ≤ 1048576
  bound : t.writes ≤ 9223372036854775807
/-- Behind something that was done to a tape. -/
def Step (ref : Bool) (H : AH) (p : Nat) (v : AV) (t' : TS) (H' : AH) : Prop := ∃ v', At ref H' p v' t' ∧ Chg (p :: blk v) H H' ∧ ∀ b ∈ blk v', b ∈ blk v ∨ H.length ≤ b
def lastT (t : TS) : Bool × TS := if t.armed then (if 0 < t.writes then (false, { t with writes := t.writes - 1 }) else (true, { t with armed := false, down := true })) else (false, t)
def cl (keep : Int) (n : Nat) : Nat := (min (max keep 0) n).toNat
def appT (t : TS) (xs : List Int) : Int × TS :=
  if t.down then (15, t) else if t.room < t.bs.length + xs.length then (14, t) else
  if (lastT t).1 then (15, { (lastT t).2 with bs := t.bs ++ xs.take (cl t.keep xs.length) }) else (0, { (lastT t).2 with bs := t.bs ++ xs })
def cutT (t : TS) (n : Int) : Int × TS :=
  if t.down then (15, t) else if n < 0 ∨ t.bs.length < n then (1, t) else
  if (lastT t).1 then (15, if 0 < t.keep then { (lastT t).2 with bs := t.bs.take n.toNat } else (lastT t).2) else (0, { (lastT t).2 with bs := t.bs.take n.toNat })
def armT (t : TS) (w k : Int) : TS := if t.down then t else { t with armed := decide (0 ≤ w), writes := w, keep := k }
def wakeT (t : TS) : TS := { t with armed := false, down := false }
theorem cl_eq (keep : Int) (n : Nat) : (if (n : Int) < (if keep < 0 then 0 else keep) then (n : Int) else if keep < 0 then 0 else keep) = (cl keep n : Int) := by
  unfold cl
  split <;> split <;> omega
theorem cl_le (keep : Int) (n : Nat) : cl keep n ≤ n := by unfold cl; omega
theorem lastT_bs (t : TS) : (lastT t).2.bs = t.bs ∧ (lastT t).2.room = t.room ∧ (lastT t).2.keep = t.keep := by
  unfold lastT
  split
  · split <;> exact ⟨rfl, rfl, rfl⟩
  · exact ⟨rfl, rfl, rfl⟩
section
variable {ref : Bool} {H H' : AH} {p : Nat} {v : AV} {t t' : TS} {F : List Nat}
theorem At.chg (h : At ref H p v t) (c : Chg F H H') (h1 : p ∉ F) (h2 : ∀ i ∈ blk v, i ∉ F) : At ref H' p v t := ⟨c.get h.row h1, h.mine.chg c h2, h.ne, h.small, h.top, h.bound⟩
theorem At.keep (h : At ref H p v t) (c : Chg [] H H') : At ref H' p v t := h.chg c (by simp) (by simp)
theorem At.form (h : At ref H p v t) : ∃ a c s, v = .slice a t.bs.length c s := h.mine.sl.len8
theorem At.lt (h : At ref H p v t) : p < H.length := lt_of_get h.row
/-- The tape's cells are turned, its bytes not. -/
theorem At.turn (h : At ref H p v t) (hb : t'.bs = t.bs) (hr : t'.room = t.room) (hw : t'.writes ≤ 9223372036854775807) : At ref (H.set p (.cells (cellsOf ref v t') .rw)) p v t' :=
  ⟨List.getElem?_set_self h.lt, by rw [hb]; exact h.mine.chg (.set _ _ _) (fun i hi => by simp; exact fun e => h.ne (e ▸ hi)), h.ne, by rw [hb, hr]; exact h.small, by rw [hr]; exact h.top, hw⟩
theorem Step.refl (h : At ref H p v t) (c : Chg [] H H') : Step ref H p v t H' := ⟨v, h.keep c, c.nil, fun b hb => .inl hb⟩
theorem Step.turn {H1 : AH} (h : At ref H p v t) (c : Chg [] H H1) (hb : t'.bs = t.bs) (hr : t'.room = t.room) (hw : t'.writes ≤ 9223372036854775807) (e : H' = H1.set p (.cells (cellsOf ref v t') .rw)) : Step ref H p v t' H' :=
  ⟨v, by subst e; exact (h.keep c).turn hb hr hw, by subst e; exact c.nil.trans (Chg.set _ _ _) (by simp), fun b hb => .inl hb⟩
end
theorem Step.put {ref : Bool} {H H3 H4 H' : AH} {p : Nat} {v v3 : AV} {t3 t' : TS} (h3 : At ref H3 p v t3) (c3 : Chg [p] H H3) (c4 : Chg (blk v) H3 H4) (m : Mine H4 1 v3 (u8s t'.bs)) (k : ∀ b ∈ blk v3, b ∈ blk v ∨ H3.length ≤ b)
    (h1 : (t'.bs.length : Int) ≤ t'.room) (h2 : t'.room ≤ 1048576) (h4 : t'.writes ≤ 9223372036854775807) (e : H' = H4.set p (.cells (cellsOf ref v3 t') .rw)) : Step ref H p v t' H' := by
  subst e
  have hp := c4.get h3.row h3.ne
  have hne : p ∉ blk v3 := fun hb => by
    rcases k p hb with hb | hb
    · exact h3.ne hb
    · have := h3.lt; omega
  refine ⟨v3, ⟨List.getElem?_set_self (lt_of_get hp), m.chg (.set _ _ _) (fun i hi => by simp; exact fun e => hne (e ▸ hi)), hne, h1, h2, h4⟩, ?_, fun b hb => ?_⟩
  · exact ((c3.mono (by simp)).trans c4 (fun i hi => .inl (by simp [hi]))).trans (.set _ _ _) (by simp)
  · rcases k b hb with hb | hb
    · exact .inl hb
    · exact .inr (Nat.le_trans c3.1 hb)
/-! no tape -/
section
variable {k lo : Nat} {H : AH}
theorem read_nil : callA ap (k + 1) (.func 15 [] []) [.ptr none] lo H = some (.tuple [.slice none 0 (some 0) 0, .int .i64 3], H) := by
  rw [← Hx_eq, hx_call fn15 rfl]; simp [f15, b15, eqV]
theorem arm_nil {w x : AV} : callA ap (k + 1) (.func 10 [] []) [.ptr none, w, x] lo H = some (.tuple [], H) := by
  rw [← Hx_eq, hx_call fn10 rfl]; simp [f10, b10, eqV]
theorem wake_nil : callA ap (k + 1) (.func 14 [] []) [.ptr none] lo H = some (.tuple [], H) := by
  rw [← Hx_eq, hx_call fn14 rfl]; simp [f14, b14, eqV]
theorem append_nil {x : AV} : callA ap (k + 1) (.func 11 [] []) [.ptr none, x] lo H = some (.int .i64 3, H) := by
  rw [← Hx_eq, hx_call fn11 rfl]; simp [f11, b11, eqV]
theorem cut_nil {x : AV} : callA ap (k + 1) (.func 13 [] []) [.ptr none, x] lo H = some (.int .i64 3, H) := by
  rw [← Hx_eq, hx_call fn13 rfl]; simp [f13, b13, eqV]
theorem len_nil : callA ap (k + 1) (.func 16 [] []) [.ptr none] lo H = some (.int .i64 0, H) := by
  rw [← Hx_eq, hx_call fn16 rfl]; simp [f16, b16, eqV]
theorem room_nil : callA ap (k + 1) (.func 23 [] []) [.ptr none] lo H = some (.int .i64 0, H) := by
  rw [← Hx_eq, hx_call fn23 rfl]; simp [f23, b23, eqV]
theorem down_nil : callA ap (k + 1) (.func 12 [] []) [.ptr none] lo H = some (.bool false, H) := by
  rw [← Hx_eq, hx_call fn12 rfl]; simp [f12, b12, eqV]
theorem copy_nil : callA ap (k + 1) (.func 21 [] []) [.ptr none] lo H = some (.ptr none, H) := by
  rw [← Hx_eq, hx_call fn21 rfl]; simp [f21, b21, eqV]
end
theorem tapeNone_main (H : AH) (ass : List (List AV)) (hl : ass.length = [24, 3].length) (ha : ∀ (i : Nat) t al, [24, 3][i]? = some t → ass[i]? = some al → AR ap 6 H t al) :
    Hx (callA ap 20 (.func 7 [] []) (List.zipWith (argA ap) [24, 3] ass) 0 H) fun r => r.1 = .bool true := by
  match ass, hl with
  | [a0, a1], _ =>
    rw [hx_call fn7 rfl]
    simp [f7, b7, known_ok, read_nil, arm_nil, wake_nil, append_nil, cut_nil, len_nil, room_nil, down_nil, copy_nil, eqV]
/-! what a tape tells -/
section
variable {k lo : Nat} {H : AH} {p : Nat} {v : AV} {t : TS}
theorem len_ok (h : At false H p v t) : callA ap (k + 1) (.func 16 [] []) [.ptr (some (p, 0))] lo H = some (.int .i64 t.bs.length, H) := by
  obtain ⟨a, c, s, rfl⟩ := h.form
  rw [← Hx_eq, hx_call fn16 rfl]; simp [f16, b16, eqV, rowOf_rw h.row, cellsOf, tcells]
theorem room_ok (h : At false H p v t) : callA ap (k + 1) (.func 23 [] []) [.ptr (some (p, 0))] lo H = some (.int .i64 t.room, H) := by
  rw [← Hx_eq, hx_call fn23 rfl]; simp [f23, b23, eqV, rowOf_rw h.row, cellsOf, tcells]
theorem down_ok (h : At false H p v t) : callA ap (k + 1) (.func 12 [] []) [.ptr (some (p, 0))] lo H = some (.bool t.down, H) := by
  rw [← Hx_eq, hx_call fn12 rfl]; simp [f12, b12, eqV, rowOf_rw h.row, cellsOf, tcells]
theorem arm_ok (h : At false H p v t) {w x : Int} (hw : w ≤ 9223372036854775807) : Hx (callA ap (k + 1) (.func 10 [] []) [.ptr (some (p, 0)), .int .i64 w, .int .i64 x] 0 H) fun r => r.1 = .tuple [] ∧ Step false H p v (armT t w x) r.2 := by
  rw [hx_call fn10 rfl]
  cases hd : t.down with
  | true =>
    simp [f10, b10, eqV, rowOf_rw h.row, cellsOf, tcells, hd, armT]
    exact .refl h .refl
  | false =>
    simp [f10, b10, eqV, rowOf_rw h.row, rowRw_rw h.row, rowRw_self h.lt, cellsOf, tcells, hd, armT]
    exact .turn h .refl rfl rfl hw rfl
theorem wake_ok (h : At false H p v t) : Hx (callA ap (k + 1) (.func 14 [] []) [.ptr (some (p, 0))] 0 H) fun r => r.1 = .tuple [] ∧ Step false H p v (wakeT t) r.2 := by
  rw [hx_call fn14 rfl]
  simp [f14, b14, eqV, rowOf_rw h.row, rowRw_rw h.row, rowRw_self h.lt, cellsOf, tcells, wakeT]
  exact .turn h .refl rfl rfl h.bound rfl
theorem last_ok (h : At false H p v t) : Hx (callA ap (k + 1) (.func 24 [] []) [.ptr (some (p, 0))] 0 H) fun r => r.1 = .bool (lastT t).1 ∧ At false r.2 p v (lastT t).2 ∧ Chg [p] H r.2 := by
  rw [hx_call fn24 rfl]
  cases ha : t.armed with
  | false =>
    simp [f24, b24, eqV, rowOf_rw h.row, cellsOf, tcells, ha, lastT]
    exact ⟨h, .refl⟩
  | true =>
    by_cases hw : 0 < t.writes
    · have hw1 : IntKind.i64.wrap (t.writes - 1) = t.writes - 1 := wrap_i64 (by omega) (by have := h.bound; omega)
      simp [f24, b24, eqV, rowOf_rw h.row, rowRw_rw h.row, cellsOf, tcells, ha, lastT, hw, hw1]
      exact ⟨h.turn (t' := { t with armed := true, writes := t.writes - 1 }) rfl rfl (by have := h.bound; simp only; omega), .set _ _ _⟩
    · simp [f24, b24, eqV, rowOf_rw h.row, rowRw_rw h.row, rowRw_self h.lt, cellsOf, tcells, ha, lastT, hw]
      exact ⟨h.turn (t' := { t with armed := false, down := true }) rfl rfl h.bound, .set _ _ _⟩
/-! what is done to a tape -/
theorem clone_ok {x : AV} {bs : List Int} (h : B8 H x bs) (hl : bs.length ≤ 100000000000000) :
    Hx (callA ap (k + 1) (.func 25 [] []) [x] 0 H) fun r => Chg [] H r.2 ∧ Mine r.2 1 r.1 (u8s bs) ∧ ∀ i ∈ blk r.1, H.length ≤ i := by
  rw [hx_call fn25 rfl]
  obtain ⟨a, c, s, rfl⟩ := h.len8
  cases a with
  | none =>
    simp [f25, b25, eqV]
    refine ⟨.refl, ?_⟩
    generalize hn : bs.length = n at h
    have : bs = [] := by
      have g := h.bs
      cases g
      rfl
    subst this
    exact .nil _ _
  | some p =>
    have ow : Mine (H ++ [.cells [] .rw]) 1 (.slice (some (H.length, 0)) 0 (some 0) 1) [] := Mine.new (l := []) (n := 0) (c := some 0) Nat.one_pos rfl (by simp) (by simp)
    simp [f25, b25, eqV]
    refine Hx.mapp (ow.append (h.keep (.app _ _)) Nat.one_pos Nat.one_pos u8s_one (by simp [room]; omega)) ?_
    rintro ⟨v6, H6⟩ ⟨o6, c6, k6⟩
    simp
    refine ⟨(Chg.app H _).trans c6 (by simp), by simpa using o6, fun i hi => ?_⟩
    rcases k6 i hi with hi | hi
    · simp at hi; omega
    · simp at hi; omega
theorem read_ok (h : At false H p v t) : Hx (callA ap (k + 2) (.func 15 [] []) [.ptr (some (p, 0))] 0 H) fun r => Chg [] H r.2 ∧ ∃ x, r.1 = .tuple [x, .int .i64 (if t.down then 15 else 0)] ∧ Mine r.2 1 x (u8s (if t.down then [] else t.bs)) ∧ ∀ i ∈ blk x, H.length ≤ i := by
  rw [hx_call fn15 rfl]
  have := h.small
  have := h.top
  cases hd : t.down with
  | true =>
    simp [f15, b15, eqV, rowOf_rw h.row, cellsOf, tcells, hd]
    exact ⟨.refl, .nil _ _⟩
  | false =>
    simp [f15, b15, eqV, rowOf_rw h.row, cellsOf, tcells, hd]
    refine Hx.mapp (clone_ok h.mine.sl (by omega)) ?_
    rintro ⟨x, H1⟩ ⟨c1, s1, f1⟩
    simp
    exact ⟨c1, s1, f1⟩
theorem copy_ok (h : At false H p v t) : Hx (callA ap (k + 2) (.func 21 [] []) [.ptr (some (p, 0))] 0 H) fun r => r.1 = .ptr (some (H.length, 0)) ∧ Chg [] H r.2 ∧ ∃ v', At false r.2 H.length v' t ∧ ∀ i ∈ blk v', H.length < i := by
  rw [hx_call fn21 rfl]
  have := h.small
  have := h.top
  obtain ⟨a, c, s, rfl⟩ := h.form
  have c1 : Chg [] H (H ++ [.cells (tcells (.slice a t.bs.length c s) t) .rw]) := .app _ _
  have c0 : Chg [] H (H ++ [.cells [.slice none 0 (some 0) 0, .int .i64 0, .bool false, .bool false, .int .i64 0, .int .i64 0] .rw]) := .app _ _
  have g : (H ++ [.cells (tcells (.slice a t.bs.length c s) t) .rw])[p]? = some (.cells (tcells (.slice a t.bs.length c s) t) .rw) := c1.get h.row (by simp)
  simp only [tcells] at g c1
  simp [f21, b21, eqV, rowOf_rw h.row, cellsOf, tcells, rowRw]
  simp [rowOf_rw g]
  refine Hx.mapp (clone_ok (h.mine.sl.keep c1) (by omega)) ?_
  rintro ⟨x, H1⟩ ⟨c2, s1, f1⟩
  simp only at c2 s1 f1
  obtain ⟨ax, cx, sx, rfl⟩ := s1.sl.len8
  have g1 : H1[H.length]? = some (.cells [.slice a t.bs.length c s, .int .i64 t.room, .bool t.armed, .bool t.down, .int .i64 t.writes, .int .i64 t.keep] .rw) := c2.get (by simp) (by simp)
  simp [rowRw_rw g1]
  simp at f1
  refine ⟨(c1.tr c2).trans (.set _ _ _) (by simp), ?_⟩
  refine ⟨.slice ax t.bs.length cx sx, ⟨by rw [List.getElem?_set_self (lt_of_get g1)]; rfl, s1.chg (.set _ _ _) (fun i hi => by have := f1 i hi; simp; omega), fun hi => by have := f1 _ hi; omega, h.small, h.top, h.bound⟩, fun i hi => by have := f1 i hi; omega⟩
theorem append_ok (h : At false H p v t) {x : AV} {xs : List Int} (hx : B8 H x xs) (hxp : p ∉ blk x) (hl : xs.length ≤ 1000) :
    Hx (callA ap (k + 2) (.func 11 [] []) [.ptr (some (p, 0)), x] 0 H) fun r => r.1 = .int .i64 (appT t xs).1 ∧ Step false H p v (appT t xs).2 r.2 := by
  rw [hx_call fn11 rfl]
  have h1 := h.small
  have h2 := h.top
  obtain ⟨a, c, s, rfl⟩ := h.form
  obtain ⟨ax, cx, sx, rfl⟩ := hx.len8
  cases hd : t.down with
  | true =>
    simp [f11, b11, eqV, rowOf_rw h.row, cellsOf, tcells, hd, appT]
    exact .refl h .refl
  | false =>
    have w1 : IntKind.i64.wrap ((t.bs.length : Int) + (xs.length : Int)) = (t.bs.length : Int) + (xs.length : Int) := wrap_i64 (by omega) (by omega)
    simp [f11, b11, eqV, rowOf_rw h.row, cellsOf, tcells, hd]
    refine hx_drawn dc11_5 fun H1 c1 _ _ => ?_
    have h' := h.keep c1
    by_cases hr : t.room < t.bs.length + xs.length
    · simp [d11_5, rowOf_rw h'.row, cellsOf, tcells, w1, hr, appT, hd]
      exact .refl h c1
    simp [d11_5, rowOf_rw h'.row, cellsOf, tcells, w1, hr, hd]
    refine Hx.mapp (last_ok h') ?_
    rintro ⟨r, H2⟩ ⟨rfl, g2, c2⟩
    simp only at g2 c2
    have hx2 := (hx.keep c1).chg c2 (fun i hi => by simp; exact fun e => hxp (e ▸ hi))
    obtain ⟨lb, lr, lk⟩ := lastT_bs t
    cases hl1 : (lastT t).1 with
    | false =>
      simp [rowOf_rw g2.row, cellsOf, tcells]
      have m2 := g2.mine
      rw [lb] at m2
      refine Hx.mapp (m2.append hx2 Nat.one_pos Nat.one_pos u8s_one (by simp [room]; omega)) ?_
      rintro ⟨v4, H4⟩ ⟨m4, c4, k4⟩
      simp only at m4 c4 k4
      have g4 := c4.get g2.row g2.ne
      have one : AV.one v4 = true ∧ ∃ a n c s, v4 = .slice a n c s := by obtain ⟨a, n, c, s, rfl, _⟩ := m4.sl.form; exact ⟨rfl, _, _, _, _, rfl⟩
      obtain ⟨one, a4, n4, c4', s4, rfl⟩ := one
      simp [rowRw_rw g4, cellsOf, tcells, one, appT, hd, hr, hl1]
      refine .put g2 ((c1.nil).tr' c2) c4 (t' := { (lastT t).2 with bs := t.bs ++ xs }) (by rw [u8s_app]; exact m4) k4 ?_ (by simp only [lr]; exact h2) g2.bound rfl
      simp only [List.length_append, lr]
      omega
    | true =>
      simp
      refine hx_drawn dc11_8 fun H3 c3 _ _ => ?_
      have g3 := g2.keep c3
      have hx3 := hx2.keep c3
      have hcl := cl_eq t.keep xs.length
      obtain ⟨v4, a4, s4, k4, _⟩ := hx3.cut8 (low := none) (high := some (.int .i64 (cl t.keep xs.length))) (lo := 0) (hi := cl t.keep xs.length) (Nat.zero_le _) (cl_le _ _) (by simp [lowIs]) (by simp [highIs])
      rw [List.drop_zero] at s4
      simp [d11_8, rowOf_rw g3.row, cellsOf, tcells, amm, amm1, lk, hcl, a4]
      have m3 := g3.mine
      rw [lb] at m3
      have hle := cl_le t.keep xs.length
      refine Hx.mapp (m3.append s4 Nat.one_pos Nat.one_pos u8s_one (by simp [room]; omega)) ?_
      rintro ⟨v5, H5⟩ ⟨m5, c5, k5⟩
      simp only at m5 c5 k5
      have g5 := c5.get g3.row g3.ne
      have one : AV.one v5 = true ∧ ∃ a n c s, v5 = .slice a n c s := by obtain ⟨a, n, c, s, rfl, _⟩ := m5.sl.form; exact ⟨rfl, _, _, _, _, rfl⟩
      obtain ⟨one, a6, n6, c6, s6, rfl⟩ := one
      simp [rowRw_rw g5, cellsOf, tcells, one, appT, hd, hr, hl1]
      refine .put g3 ((c1.nil.tr' c2).tr c3) c5 (t' := { (lastT t).2 with bs := t.bs ++ xs.take (cl t.keep xs.length) }) (by rw [u8s_app]; exact m5) k5 ?_ (by simp only [lr]; exact h2) g3.bound (by simp [cellsOf, tcells, lk])
      simp only [List.length_append, List.length_take, lr]
      omega
theorem cut_ok (h : At false H p v t) {n : Int} : Hx (callA ap (k + 2) (.func 13 [] []) [.ptr (some (p, 0)), .int .i64 n] 0 H) fun r => r.1 = .int .i64 (cutT t n).1 ∧ Step false H p v (cutT t n).2 r.2 := by
  rw [hx_call fn13 rfl]
  have h1 := h.small
  have h2 := h.top
  obtain ⟨a, c, s, rfl⟩ := h.form
  cases hd : t.down with
  | true =>
    simp [f13, b13, eqV, rowOf_rw h.row, cellsOf, tcells, hd, cutT]
    exact .refl h .refl
  | false =>
    by_cases hn : n < 0
    · simp [f13, b13, eqV, rowOf_rw h.row, cellsOf, tcells, hd, hn, cutT]
      exact .refl h .refl
    by_cases hn2 : t.bs.length < n
    · simp [f13, b13, eqV, rowOf_rw h.row, cellsOf, tcells, hd, hn, hn2, cutT]
      exact .refl h .refl
    obtain ⟨m, rfl⟩ := Int.eq_ofNat_of_zero_le (by omega : 0 ≤ n)
    have hm : m ≤ t.bs.length := by omega
    have hm' : ¬ t.bs.length < m := by omega
    have hn' : ¬ (m : Int) < 0 := by omega
    simp [f13, b13, eqV, rowOf_rw h.row, cellsOf, tcells, hd, hm', hn']
    refine Hx.mapp (last_ok h) ?_
    rintro ⟨r, H2⟩ ⟨rfl, g2, c2⟩
    simp only at g2 c2
    obtain ⟨lb, lr, lk⟩ := lastT_bs t
    have m2 := g2.mine
    rw [lb] at m2
    obtain ⟨v4, a4, m4, k4⟩ := m2.cut8 (high := some (.int .i64 m)) hm (by simp [highIs])
    have one : AV.one v4 = true ∧ ∃ a n c s, v4 = .slice a n c s := by obtain ⟨a, n, c, s, rfl, _⟩ := m4.sl.form; exact ⟨rfl, _, _, _, _, rfl⟩
    obtain ⟨one, a6, n6, c6, s6, rfl⟩ := one
    have fin : ∀ {H'}, H' = H2.set p (.cells (cellsOf false (.slice a6 n6 c6 s6) { (lastT t).2 with bs := t.bs.take m }) .rw) → Step false H p (.slice a t.bs.length c s) { (lastT t).2 with bs := t.bs.take m } H' := fun e =>
      .put g2 c2 .refl (t' := { (lastT t).2 with bs := t.bs.take m }) m4 (fun b hb => .inl (k4 b hb)) (by simp only [List.length_take, lr]; omega) (by simp only [lr]; exact h2) g2.bound e
    cases hl1 : (lastT t).1 with
    | false =>
      simp [rowOf_rw g2.row, rowRw_rw g2.row, cellsOf, tcells, a4, one, cutT, hd, hm', hn', hl1]
      exact fin rfl
    | true =>
      by_cases hk : 0 < t.keep
      · simp [rowOf_rw g2.row, rowRw_rw g2.row, cellsOf, tcells, a4, one, cutT, hd, hm', hn', hl1, lk, hk]
        have q := fin rfl
        simp only [cellsOf, tcells, lk] at q
        exact q
      · simp [rowOf_rw g2.row, rowRw_rw g2.row, cellsOf, tcells, cutT, hd, hm', hn', hl1, lk, hk]
        exact ⟨_, g2, c2.mono (by simp), fun b hb => .inl hb⟩
/-- A new tape. -/
theorem new_ok {n : Int} : callA ap (k + 1) (.func 9 [] []) [.int .i64 n] lo H = some (.ptr (some (H.length, 0)), H ++ [.cells (tcells (.slice none 0 (some 0) 0) ⟨[], min (max n 0) 1048576, false, false, 0, 0⟩) .rw]) := by
  rw [← Hx_eq, hx_call fn9 rfl]
  have : (if (1048576 : Int) < (if n < 0 then 0 else n) then (1048576 : Int) else if n < 0 then 0 else n) = min (max n 0) 1048576 := by split <;> split <;> omega
  simp [f9, b9, amm, amm1, this, tcells]
end
end Go.Proofs.Ytpohdapcbcjidaa.T
