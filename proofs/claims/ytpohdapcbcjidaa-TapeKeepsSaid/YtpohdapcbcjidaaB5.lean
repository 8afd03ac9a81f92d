import Derived.Test.YtpohdapcbcjidaaB4
/-! TapeKeeps. -/
set_option linter.unusedVariables false
set_option linter.unusedSimpArgs false
set_option maxHeartbeats 4000000
set_option maxRecDepth 100000
namespace Go.Proofs.Ytpohdapcbcjidaa.T
open Go Go.Ab
theorem strN_app (a b : List Int) : strN a ++ strN b = strN (a ++ b) := by
  apply Go.WideShapes.bytes_inj
  simp [strN_data]
/-- Bytes, the first i of them turned. -/
def flips (bs : List Int) (i : Nat) : List Int := (bs.take i).map (fun x => ixor .u8 x 255) ++ bs.drop i
theorem flips_len (bs : List Int) (i : Nat) : (flips bs i).length = bs.length := by simp [flips]; omega
theorem flips_get {bs : List Int} {i : Nat} (hi : i < bs.length) : (flips bs i).getD i 0 = bs.getD i 0 := by
  unfold flips
  simp only [List.getD_eq_getElem?_getD]
  rw [List.getElem?_append_right (by simp; omega)]
  simp
  congr 1
  congr 1
  omega
theorem flips_set {bs : List Int} {i : Nat} (hi : i < bs.length) : (flips bs i).set i (ixor .u8 (bs.getD i 0) 255) = flips bs (i + 1) := by
  unfold flips
  rw [List.set_append_right _ _ (by simp; omega)]
  have : i - (List.map (fun x => ixor .u8 x 255) (bs.take i)).length = 0 := by simp; omega
  rw [this, List.drop_eq_getElem_cons hi, List.set_cons_zero, List.take_succ_eq_append_getElem hi, List.map_append, List.append_assoc]
  simp [hi]
/-- A byte of a slice of one's own is turned. -/
theorem mine_set {H : AH} {v : AV} {bs : List Int} (h : Mine H 1 v (u8s bs)) {i : Nat} (hi : i < bs.length) (x : Int) :
    ∃ b c l, v = .slice (some (b, 0)) bs.length c 1 ∧ H[b]? = some (.cells l .rw) ∧ i < l.length ∧ l[i]? = some (.int .u8 (bs.getD i 0)) ∧
      Mine (H.set b (.cells (splice l i [.int .u8 x]) .rw)) 1 v (u8s (bs.set i x)) := by
  obtain ⟨a, c, s, rfl⟩ := h.sl.len8
  generalize hg : u8s bs = cs at h
  generalize hn : bs.length = n at h
  cases h with
  | nil =>
    have : bs = [] := by simpa [u8s] using hg
    subst this; simp at hi
  | row b n k l cs hz h1 h2 h3 h4 =>
    have hlen : bs.length = n := by have := congrArg List.length hg; rw [← h3] at this; simp at this; omega
    have hil : i < l.length := by omega
    have hget : l[i]? = some (.int .u8 (bs.getD i 0)) := by
      have : (l.take (n * 1))[i]? = (u8s bs)[i]? := by rw [h3, ← hg]
      rw [List.getElem?_take_of_lt (by omega)] at this
      rw [this]
      simp [u8s, hi]
    refine ⟨b, _, l, rfl, h1, hil, hget, .row b n _ _ _ hz (List.getElem?_set_self (lt_of_get h1)) (by simp [splice]; omega) ?_ (fun q e => by rw [← h4 q e]; simp [splice]; omega)⟩
    have e : splice l i [.int .u8 x] = l.set i (.int .u8 x) := by
      unfold splice
      rw [List.set_eq_take_append_cons_drop, if_pos hil]
      simp
    have e2 : (l.take (n * 1)).set i (.int .u8 x) = u8s (bs.set i x) := by rw [h3, ← hg]; simp [u8s, List.map_set]
    rw [e, ← e2, List.take_set]
theorem tapeKeeps_ok {H0 : AH} {va vb : AV} {as_ bs : List Int} (ha : B8 H0 va as_) (hab : Byt as_) (hb : B8 H0 vb bs) (hbb : Byt bs) : Hx (callA ap 2000 (.func 4 [] []) [va, vb] 0 H0) fun r => r.1 = .bool true := by
  rw [hx_call fn4 rfl]
  obtain ⟨aa, ca, sa, rfl⟩ := ha.len8
  obtain ⟨ab, cb, sb, rfl⟩ := hb.len8
  by_cases h1 : 300 < as_.length
  · have h1' : 300 < (as_.length : Int) := by omega
    simp [f4, b4, known_ok, h1']
  have h1' : ¬ 300 < (as_.length : Int) := by omega
  by_cases h2 : 300 < bs.length
  · have h2' : 300 < (bs.length : Int) := by omega
    simp [f4, b4, known_ok, h1', h2']
  have h2' : ¬ 300 < (bs.length : Int) := by omega
  have n1 := fun lo H => @new_ok 1998 lo H 1000
  simp [f4, b4, known_ok, h1', h2', n1]
  have T : At false (H0 ++ [.cells (tcells (.slice none 0 (some 0) 0) ⟨[], min (max 1000 0) 1048576, false, false, 0, 0⟩) .rw, .cells [] .rw]) H0.length (.slice none 0 (some 0) 0) ⟨[], min (max 1000 0) 1048576, false, false, 0, 0⟩ :=
    ⟨by simp [cellsOf], .nil _ _, by simp, by show (0 : Int) ≤ min (max 1000 0) 1048576; decide, by show min (max (1000 : Int) 0) 1048576 ≤ 1048576; decide, by simp⟩
  have ow : Mine (H0 ++ [.cells (tcells (.slice none 0 (some 0) 0) ⟨[], min (max 1000 0) 1048576, false, false, 0, 0⟩) .rw, .cells [] .rw]) 1 (.slice (some (H0.length + 1, 0)) 0 (some 0) 1) [] := .row _ 0 (some 0) [] _ Nat.one_pos (by simp) (by simp) (by simp) (by simp)
  have c1 : Chg [] H0 (H0 ++ [.cells (tcells (.slice none 0 (some 0) 0) ⟨[], min (max 1000 0) 1048576, false, false, 0, 0⟩) .rw, .cells [] .rw]) := .app _ _
  have hr : min (max (1000 : Int) 0) 1048576 = 1000 := by decide
  rw [hr] at T ow c1
  have la := ha.lt
  have lb := hb.lt
  simp only [show min (max (1000 : Int) 0) 1048576 = 1000 from by decide]
  have lH1 : (H0 ++ [AB.cells (tcells (.slice none 0 (some 0) 0) ⟨[], 1000, false, false, 0, 0⟩) .rw, .cells [] .rw]).length = H0.length + 2 := by simp
  generalize (H0 ++ [AB.cells (tcells (.slice none 0 (some 0) 0) ⟨[], 1000, false, false, 0, 0⟩) .rw, .cells [] .rw]) = H1 at *
  refine Hx.mapp (ow.append (ha.keep c1) Nat.one_pos Nat.one_pos u8s_one (by simp [room]; omega)) ?_
  rintro ⟨x, H2⟩ ⟨mx, c2, kx⟩
  simp only at mx c2 kx
  rw [List.nil_append] at mx
  have fx : ∀ b ∈ blk x, H0.length < b := fun b hb => by
    rcases kx b hb with h | h
    · simp at h; omega
    · omega
  have T2 := T.chg c2 (by simp) (by simp)
  have c02 : Chg [] H0 H2 := c1.trans c2 (by simp)
  simp [eqV]
  refine Hx.mapp (append_ok T2 mx.sl (fun h => by have := fx _ h; omega) (by omega)) ?_
  rintro ⟨_, H3⟩ ⟨rfl, v3, T3, c3, k3⟩
  have ea : appT ⟨[], 1000, false, false, 0, 0⟩ as_ = (0, ⟨as_, 1000, false, false, 0, 0⟩) := by simp [appT, lastT]; omega
  simp only [ea] at T3 c3 k3 ⊢
  have mx3 := mx.chg c3 (fun i hi => by have := fx i hi; simp; omega)
  have c03 : Chg [] H0 H3 := c02.trans c3 (by simp)
  have d3 : ∀ b ∈ blk v3, b ∉ blk x := fun b hb hx => by
    rcases k3 b hb with h | h
    · simp at h
    · have := mx.lt b hx; omega
  simp
  refine Hx.mapp (append_ok T3 (hb.keep c03) (fun h => by have := lb _ h; omega) (by omega)) ?_
  rintro ⟨_, H4⟩ ⟨rfl, v4, T4, c4, k4⟩
  have eb : appT ⟨as_, 1000, false, false, 0, 0⟩ bs = (0, ⟨as_ ++ bs, 1000, false, false, 0, 0⟩) := by simp [appT, lastT]; omega
  simp only [eb] at T4 c4 k4 ⊢
  have lx3 := mx3.lt
  have mx4 := mx3.chg c4 (fun i hi h => by
    rcases List.mem_cons.1 h with h | h
    · have := fx i hi; omega
    · exact d3 i h hi)
  have c04 : Chg [] H0 H4 := c03.trans c4 (fun i hi => .inr (by
    rcases List.mem_cons.1 hi with h | h
    · omega
    · rcases k3 i h with h | h
      · simp at h
      · have := c02.1; omega))
  have d4 : ∀ b ∈ blk v4, H0.length < b ∧ b ∉ blk x := fun b hb => by
    rcases k4 b hb with h | h
    · refine ⟨?_, d3 b h⟩
      rcases k3 b h with h | h
      · simp at h
      · have := c02.1; have := T2.lt; omega
    · exact ⟨by have := T3.lt; omega, fun hx => by have := lx3 b hx; omega⟩
  obtain ⟨ax, cx, sx, rfl⟩ := mx.sl.len8
  simp
  refine hx_up (fun i st => ∃ H', st = ⟨sp 97 [(0, .slice aa as_.length ca sa), (1, .slice ab bs.length cb sb), (5, .ptr (some (H0.length, 0))), (6, .slice ax as_.length cx sx), (7, .int .i64 i)], H', []⟩ ∧ Chg [] H0 H' ∧ At false H' H0.length v4 ⟨as_ ++ bs, 1000, false, false, 0, 0⟩ ∧ Mine H' 1 (.slice ax as_.length cx sx) (u8s (flips as_ i))) as_.length ?_ ?_ (by omega)
    ⟨H4, by simp [maskS], c04, T4, by simpa [flips] using mx4⟩
  · rintro i st hi ⟨H5, rfl, c5, T5, m5⟩
    obtain ⟨b, c, l, e, g1, g2, g3, g4⟩ := mine_set m5 (i := i) (by rw [flips_len]; exact hi) (ixor .u8 (as_.getD i 0) 255)
    rw [flips_get hi] at g3
    rw [flips_set hi] at g4
    rw [flips_len] at e
    cases e
    have hi' : (i : Int) < as_.length := by omega
    have w : IntKind.i64.wrap ((i : Int) + 1) = (i : Int) + 1 := wrap_i64 (by omega) (by omega)
    have hb0 : H0.length < b := fx b (by simp)
    simp only [List.getD_eq_getElem?_getD] at g3 g4
    have g2' : i + 1 ≤ l.length := g2
    simp [hi', hi, rowOf_rw g1, rowRw_rw g1, g3, g2', w, maskS]
    refine ⟨c5.trans (.set _ _ _) (by simp; omega), T5.chg (.set _ _ _) (by simp; omega) (fun i hi => by simp; exact fun e => (d4 i hi).2 (by simp [e])), ?_⟩
    simpa [splice, hi] using g4
  · rintro st ⟨H5, rfl, c5, T5, m5⟩
    have t1 := toStr_b8 (ha.keep c5)
    have t2 := toStr_b8 (hb.keep c5)
    have hs : ¬ (9223372036854775807 : Int) < (as_.length : Int) + (bs.length : Int) := by omega
    simp [t1, t2, strN_size, hs, strN_app]
    refine Hx.mapp (read_ok T5) ?_
    rintro ⟨_, H6⟩ ⟨c6, y, rfl, my, fy⟩
    simp only [Bool.false_eq_true, if_false] at c6 my fy
    have T6 := T5.keep c6
    have ty := toStr_b8 my.sl
    have qq := strN_beq (hab.app hbb) (hab.app hbb)
    obtain ⟨ay, cy, sy, rfl⟩ := my.sl.len8
    have fy' : ∀ b ∈ blk (.slice ay (as_ ++ bs).length cy sy), H0.length < b ∧ b ∉ blk v4 := fun b hb => ⟨by have := fy b hb; have := T5.lt; omega, fun h => by have := fy b hb; have := T5.mine.lt b h; omega⟩
    generalize hz : as_ ++ bs = zs at *
    have hzl : zs.length ≤ 600 := by rw [← hz]; simp; omega
    simp [ty, qq]
    refine hx_up (fun i st => ∃ H', st = ⟨sp 97 [(5, .ptr (some (H0.length, 0))), (8, .str (strN zs)), (9, .slice ay zs.length cy sy), (11, .int .i64 i)], H', []⟩ ∧ At false H' H0.length v4 ⟨zs, 1000, false, false, 0, 0⟩ ∧ Mine H' 1 (.slice ay zs.length cy sy) (u8s (flips zs i))) zs.length ?_ ?_ (by omega)
      ⟨H6, by simp [maskS], T6, by simpa [flips] using my⟩
    · rintro i st hi ⟨H7, rfl, T7, m7⟩
      obtain ⟨b, c, l, e, g1, g2, g3, g4⟩ := mine_set m7 (i := i) (by rw [flips_len]; exact hi) (ixor .u8 (zs.getD i 0) 255)
      rw [flips_get hi] at g3
      rw [flips_set hi] at g4
      rw [flips_len] at e
      cases e
      have hi' : (i : Int) < zs.length := by omega
      have w : IntKind.i64.wrap ((i : Int) + 1) = (i : Int) + 1 := wrap_i64 (by omega) (by omega)
      obtain ⟨hb0, hb1⟩ := fy' b (by simp)
      simp only [List.getD_eq_getElem?_getD] at g3 g4
      have g2' : i + 1 ≤ l.length := g2
      simp [hi', hi, rowOf_rw g1, rowRw_rw g1, g3, g2', w, maskS]
      refine ⟨T7.chg (.set _ _ _) (by simp; omega) (fun i hi => by simp; exact fun e => hb1 (e ▸ hi)), ?_⟩
      simpa [splice, hi] using g4
    · rintro st ⟨H7, rfl, T7, m7⟩
      simp
      refine Hx.mapp (read_ok T7) ?_
      rintro ⟨_, H8⟩ ⟨c8, w, rfl, mw, fw⟩
      simp only [Bool.false_eq_true, if_false] at c8 mw fw
      have tw := toStr_b8 mw.sl
      simp [tw, qq]
theorem tapeKeeps_main (H : AH) (ass : List (List AV)) (hl : ass.length = [24, 24].length) (ha : ∀ (i : Nat) t al, [24, 24][i]? = some t → ass[i]? = some al → AR ap 6 H t al) :
    Hx (callA ap 2000 (.func 4 [] []) (List.zipWith (argA ap) [24, 24] ass) 0 H) fun r => r.1 = .bool true := by
  match ass, hl with
  | [a0, a1], _ =>
    obtain ⟨v0, bs0, rfl, h0, hb0⟩ := ar_bytes (ha 0 24 a0 rfl rfl) ty24 rfl ty5 rfl rfl
    obtain ⟨v1, bs1, rfl, h1, hb1⟩ := ar_bytes (ha 1 24 a1 rfl rfl) ty24 rfl ty5 rfl rfl
    simp only [List.zipWith_cons_cons, List.zipWith_nil_right, argA_one ty24 rfl]
    exact tapeKeeps_ok h0 hb0 h1 hb1
end Go.Proofs.Ytpohdapcbcjidaa.T
