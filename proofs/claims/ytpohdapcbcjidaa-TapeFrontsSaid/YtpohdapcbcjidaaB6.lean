import Derived.Test.YtpohdapcbcjidaaB5
import Derived.Test.YtpohdapcbcjidaaAb26
/-! TapeFronts. -/
set_option linter.unusedVariables false
set_option linter.unusedSimpArgs false
set_option maxHeartbeats 4000000
set_option maxRecDepth 100000
namespace Go.Proofs.Ytpohdapcbcjidaa.T
open Go Go.Ab
/-- What the tape has behind i writes. -/
def wantT (ls : List (List Int)) (w kp i : Nat) : List Int := if i ≤ w then (ls.take i).flatten else (ls.take w).flatten ++ (ls.getD w []).take kp
def stT (ls : List (List Int)) (w kp i : Nat) : TS := if i ≤ w then ⟨wantT ls w kp i, 1048576, true, false, (w : Int) - i, kp⟩ else ⟨wantT ls w kp i, 1048576, false, true, 0, kp⟩
section
variable {ls : List (List Int)} {w kp i : Nat}
theorem wantT_byt (h : ∀ b ∈ ls, Byt b) : Byt (wantT ls w kp i) := by
  have hf : ∀ n, Byt (ls.take n).flatten := fun n x hx => by
    obtain ⟨b, h1, h2⟩ := List.mem_flatten.1 hx
    exact h b (List.mem_of_mem_take h1) x h2
  unfold wantT
  split
  · exact hf _
  · refine (hf _).app (Byt.take ?_ _)
    by_cases hw : w < ls.length
    · rw [show ls.getD w [] = ls[w] by simp [hw]]
      exact h _ (List.getElem_mem hw)
    · rw [show ls.getD w [] = [] by simp [Nat.le_of_not_lt hw]]
      exact byt_nil
theorem flat_len (h : ∀ j, j < ls.length → (ls.getD j []).length ≤ 100) : ∀ n, n ≤ ls.length → (ls.take n).flatten.length ≤ 100 * n
  | 0, _ => by simp
  | n + 1, hn => by
    rw [List.take_succ_eq_append_getElem (by omega), List.flatten_append, List.length_append]
    have := flat_len h n (by omega)
    have := h n (by omega)
    simp [hn] at this
    rw [List.getElem?_eq_getElem (by omega), Option.getD_some] at this
    rw [show [ls[n]].flatten = ls[n] by simp]
    omega
theorem wantT_len (h : ∀ j, j < ls.length → (ls.getD j []).length ≤ 100) (hl : ls.length ≤ 30) (hi : i ≤ ls.length) : (wantT ls w kp i).length ≤ 3100 := by
  unfold wantT
  split
  · have := flat_len h i hi; omega
  · have := flat_len h w (by omega)
    have := h w (by omega)
    simp only [List.length_append, List.length_take]
    omega
theorem stT_bs : (stT ls w kp i).bs = wantT ls w kp i := by unfold stT; split <;> rfl
theorem step_lt (hi : i < ls.length) (hw : i < w) (hs : (wantT ls w kp i).length + (ls.getD i []).length ≤ 1048576) : wantT ls w kp (i + 1) = wantT ls w kp i ++ ls.getD i [] ∧ appT (stT ls w kp i) (ls.getD i []) = (0, stT ls w kp (i + 1)) := by
  have e : wantT ls w kp (i + 1) = wantT ls w kp i ++ ls.getD i [] := by
    unfold wantT
    rw [if_pos (by omega), if_pos (by omega), List.take_succ_eq_append_getElem hi, List.flatten_append]
    simp [hi]
  refine ⟨e, ?_⟩
  have h1 : stT ls w kp i = ⟨wantT ls w kp i, 1048576, true, false, (w : Int) - i, kp⟩ := by unfold stT; rw [if_pos (by omega)]
  have h2 : stT ls w kp (i + 1) = ⟨wantT ls w kp (i + 1), 1048576, true, false, (w : Int) - (i + 1 : Nat), kp⟩ := by unfold stT; rw [if_pos (by omega)]
  rw [h1, h2, e]
  have hp : (0 : Int) < (w : Int) - i := by omega
  have hr : ¬ (1048576 : Int) < ((wantT ls w kp i).length : Int) + ((ls.getD i []).length : Int) := by omega
  simp only [appT, lastT, hp, hr, Bool.false_eq_true, if_false, if_true]
  congr 2
  omega
theorem step_eq (hi : i < ls.length) (hw : i = w) (hs : (wantT ls w kp i).length + (ls.getD i []).length ≤ 1048576) : wantT ls w kp (i + 1) = wantT ls w kp i ++ (ls.getD i []).take kp ∧ appT (stT ls w kp i) (ls.getD i []) = (15, stT ls w kp (i + 1)) := by
  subst hw
  have e : wantT ls i kp (i + 1) = wantT ls i kp i ++ (ls.getD i []).take kp := by
    unfold wantT
    rw [if_neg (by omega), if_pos (by omega)]
  refine ⟨e, ?_⟩
  have h1 : stT ls i kp i = ⟨wantT ls i kp i, 1048576, true, false, 0, kp⟩ := by unfold stT; rw [if_pos (by omega)]; simp
  have h2 : stT ls i kp (i + 1) = ⟨wantT ls i kp (i + 1), 1048576, false, true, 0, kp⟩ := by unfold stT; rw [if_neg (by omega)]
  rw [h1, h2, e]
  have hr : ¬ (1048576 : Int) < ((wantT ls i kp i).length : Int) + ((ls.getD i []).length : Int) := by omega
  have hc : (ls.getD i []).take (cl kp (ls.getD i []).length) = (ls.getD i []).take kp := by
    by_cases h : kp ≤ (ls.getD i []).length
    · rw [show cl kp (ls.getD i []).length = kp by unfold cl; omega]
    · rw [show cl kp (ls.getD i []).length = (ls.getD i []).length by unfold cl; omega, List.take_length, List.take_of_length_le (by omega)]
  have h0 : ¬ (0 : Int) < 0 := by omega
  simp only [appT, lastT, hr, h0, Bool.false_eq_true, if_false, if_true, hc]
theorem step_gt (hw : w < i) (xs : List Int) : wantT ls w kp (i + 1) = wantT ls w kp i ∧ appT (stT ls w kp i) xs = (15, stT ls w kp i) ∧ stT ls w kp (i + 1) = stT ls w kp i ∧ (stT ls w kp i).down = true := by
  have e : wantT ls w kp (i + 1) = wantT ls w kp i := by unfold wantT; rw [if_neg (by omega), if_neg (by omega)]
  have h1 : stT ls w kp i = ⟨wantT ls w kp i, 1048576, false, true, 0, kp⟩ := by unfold stT; rw [if_neg (by omega)]
  refine ⟨e, ?_, ?_, by rw [h1]⟩
  · rw [h1]; simp [appT]
  · rw [h1]; unfold stT; rw [if_neg (by omega), e]
end
theorem tapeFronts_ok {H0 : AH} {v : AV} {ls : List (List Int)} {w kp : Nat} (h : BL H0 v ls) (hlb : ∀ b ∈ ls, Byt b) (hw : w < 256) (hkp : kp < 256) : Hx (callA ap 2000 (.func 3 [] []) [v, .int .u8 w, .int .u8 kp] 0 H0) fun r => r.1 = .bool true := by
  rw [hx_call fn3 rfl]
  obtain ⟨a, c, s, rfl⟩ := h.form
  by_cases h30 : 30 < ls.length
  · have h30' : 30 < (ls.length : Int) := by omega
    simp [f3, b3, known_ok, h30']
  have h30' : ¬ 30 < (ls.length : Int) := by omega
  simp [f3, b3, known_ok, h30']
  refine hx_up (fun i st => st = ⟨sp 135 [(0, .slice a ls.length c s), (1, .int .u8 w), (2, .int .u8 kp), (7, .str ⟨#[]⟩), (8, .int .i64 i)], H0, []⟩ ∧ ∀ j, j < i → (ls.getD j []).length ≤ 100) ls.length ?_ ?_ (by omega) ⟨by simp [maskS], by simp⟩
  · rintro i st hi ⟨rfl, hin⟩
    obtain ⟨b, o, c', l, z, e, g1, g2, hz⟩ := h.get hi
    cases e
    obtain ⟨az, cz, sz, rfl⟩ := hz.len8
    have hi' : (i : Int) < ls.length := by omega
    have wi : IntKind.i64.wrap ((i : Int) + 1) = (i : Int) + 1 := wrap_i64 (by omega) (by omega)
    by_cases h4 : 100 < (ls.getD i []).length
    · have h4' : 100 < ((ls.getD i []).length : Int) := by omega
      generalize hm : (ls.getD i []).length = m at *
      simp [hi', hi, g1, g2, h4']
    · have h4' : ¬ 100 < ((ls.getD i []).length : Int) := by omega
      have h4'' : (ls.getD i []).length ≤ 100 := by omega
      generalize hm : (ls.getD i []).length = m at *
      simp [hi', hi, g1, g2, h4', wi, maskS]
      intro j hj
      by_cases hji : j = i
      · subst hji; simpa [List.getD_eq_getElem?_getD, ← hm] using h4''
      · simpa [List.getD_eq_getElem?_getD] using hin j (by omega)
  · rintro st ⟨rfl, hin⟩
    have n1 := fun lo H => @new_ok 1998 lo H 1048576
    simp only [show min (max (1048576 : Int) 0) 1048576 = 1048576 from by decide] at n1
    simp [n1, eqV]
    have T : At false (H0 ++ [.cells (tcells (.slice none 0 (some 0) 0) ⟨[], 1048576, false, false, 0, 0⟩) .rw]) H0.length (.slice none 0 (some 0) 0) ⟨[], 1048576, false, false, 0, 0⟩ :=
      ⟨by simp [cellsOf], .nil _ _, by simp, by simp, by simp, by simp⟩
    have c1 : Chg [] H0 (H0 ++ [.cells (tcells (.slice none 0 (some 0) 0) ⟨[], 1048576, false, false, 0, 0⟩) .rw]) := .app _ _
    have ww : IntKind.i64.wrap (w : Int) = (w : Int) := wrap_i64 (by omega) (by omega)
    have wk : IntKind.i64.wrap (kp : Int) = (kp : Int) := wrap_i64 (by omega) (by omega)
    simp [ww, wk]
    refine Hx.mapp (arm_ok T (w := w) (x := kp) (by omega)) ?_
    rintro ⟨_, H2⟩ ⟨rfl, v2, T2, c2, k2⟩
    simp only at T2 c2 k2
    simp at k2
    have e0 : armT ⟨[], 1048576, false, false, 0, 0⟩ w kp = stT ls w kp 0 := by
      simp [armT, stT, wantT]
    rw [e0] at T2
    simp
    refine hx_up (fun i st => ∃ H' v', st = ⟨sp 135 [(0, .slice a ls.length c s), (1, .int .u8 w), (2, .int .u8 kp), (7, .str (strN (wantT ls w kp i))), (9, .ptr (some (H0.length, 0))), (10, .int .i64 i)], H', []⟩ ∧ Chg [] H0 H' ∧ At false H' H0.length v' (stT ls w kp i) ∧ ∀ b ∈ blk v', H0.length ≤ b) ls.length ?_ ?_ (by omega)
      ⟨H2, v2, by simp [maskS, wantT]; rfl, c1.trans c2 (by simp), T2, fun b hb => by have := k2 b hb; omega⟩
    · rintro i st hi ⟨H3, v3, rfl, c3, T3, f3⟩
      obtain ⟨b, o, c', l, z, e, g1, g2, hz⟩ := (h.keep c3).get hi
      cases e
      obtain ⟨b', o', c'', l', z', e', g1', g2', hz'⟩ := h.get hi
      cases e'
      have hll := c3.row g1' (by simp)
      rw [g1] at hll; cases hll
      rw [g2] at g2'; cases g2'
      obtain ⟨az, cz, sz, rfl⟩ := hz.len8
      have hi' : (i : Int) < ls.length := by omega
      have wi : IntKind.i64.wrap ((i : Int) + 1) = (i : Int) + 1 := wrap_i64 (by omega) (by omega)
      have h100 := hin i hi
      have hwl := wantT_len (w := w) (kp := kp) (i := i) hin (by omega) (by omega)
      have S1 := fun h => step_lt (ls := ls) (kp := kp) (w := w) hi h (by omega)
      have S2 := fun h => step_eq (ls := ls) (kp := kp) (w := w) hi h (by omega)
      have S3 := fun h => step_gt (ls := ls) (kp := kp) (w := w) (i := i) h (ls.getD i [])
      generalize hbi : ls.getD i [] = bi at *
      simp [hi', hi, g1, g2]
      refine Hx.mapp (append_ok T3 hz (fun hh => by have := hz'.lt _ hh; omega) (by omega)) ?_
      rintro ⟨_, H4⟩ ⟨rfl, v4, T4, c4, k4⟩
      simp only at T4 c4 k4
      have c04 : Chg [] H0 H4 := c3.trans c4 (fun i hi => .inr (by
        rcases List.mem_cons.1 hi with h | h
        · omega
        · exact f3 i h))
      have f4 : ∀ b ∈ blk v4, H0.length ≤ b := fun b hb => by
        rcases k4 b hb with h | h
        · exact f3 b h
        · have := c3.1; omega
      have r4 := c04.row g1' (by simp)
      have tz := toStr_b8 (hz'.keep c04)
      rcases Nat.lt_trichotomy i w with hiw | hiw | hiw
      · obtain ⟨e1, e2⟩ := S1 hiw
        have hiw' : (i : Int) < w := by omega
        rw [e2] at T4 ⊢
        have hdn : (stT ls w kp (i + 1)).down = false := by unfold stT; rw [if_pos (by omega)]
        have hs : ¬ (9223372036854775807 : Int) < ((wantT ls w kp i).length : Int) + (bi.length : Int) := by omega
        simp [ww, hiw, hiw', hi, r4, g2, tz, strN_size, hs, strN_cat, ← e1, down_ok T4, hdn, wi, maskS]
        exact ⟨c04, _, T4, f4⟩
      · obtain ⟨e1, e2⟩ := S2 hiw
        subst hiw
        rw [e2] at T4 ⊢
        simp [ww]
        refine hx_drawn dc3_26 fun H5 c5 _ _ => ?_
        have r5 := (c04.tr c5).row g1' (by simp)
        have hmn : (if bi.length < kp then (bi.length : Int) else (kp : Int)) = ((min kp bi.length : Nat) : Int) := by split <;> omega
        obtain ⟨v6, a6, s6, _, _⟩ := ((hz'.keep c04).keep c5).cut8 (low := none) (high := some (.int .i64 ((min kp bi.length : Nat) : Int))) (lo := 0) (hi := min kp bi.length) (Nat.zero_le _) (Nat.min_le_right _ _) (by simp [lowIs]) (by simp [highIs])
        rw [List.drop_zero, show bi.take (min kp bi.length) = bi.take kp by
          rcases Nat.le_total kp bi.length with h | h
          · rw [Nat.min_eq_left h]
          · rw [Nat.min_eq_right h, List.take_length, List.take_of_length_le h]] at s6
        have t6 := toStr_b8 s6
        have hs : ¬ (9223372036854775807 : Int) < ((wantT ls i kp i).length : Int) + ((bi.take kp).length : Int) := by simp only [List.length_take]; omega
        simp only [List.length_take] at hs
        generalize hgm : min kp bi.length = mn at *
        have hs2 : ¬ (9223372036854775807 : Int) < ((wantT ls i kp i).length : Int) + ((min kp bi.length : Nat) : Int) := by rw [hgm]; exact hs
        simp [d3_26, r5, hi', hi, g2, wk, amm, amm1, hmn, a6, t6, strN_size, strN_cat, ← e1, wi, maskS, hs2]
        exact ⟨c04.tr c5, _, T4.keep c5, f4⟩
      · obtain ⟨e1, e2, e3, e4⟩ := S3 hiw
        have hiw' : ¬ (i : Int) < w := by omega
        have hiw2 : ¬ (i : Int) = w := by omega
        rw [e2] at T4 ⊢
        simp [ww, hiw', hiw2]
        refine Hx.mapp (cut_ok T4 (n := 0)) ?_
        rintro ⟨_, H5⟩ ⟨rfl, v5, T5, c5, k5⟩
        simp only at T5 c5 k5
        have e5 : cutT (stT ls w kp i) 0 = (15, stT ls w kp i) := by simp [cutT, e4]
        rw [e5] at T5
        simp [e5, wi, maskS, e1, e3]
        refine ⟨c04.trans c5 (fun i hi => .inr ?_), _, T5, fun b hb => ?_⟩
        · rcases List.mem_cons.1 hi with h | h
          · omega
          · exact f4 i h
        · rcases k5 b hb with h | h
          · exact f4 b h
          · have := c04.1; omega
    · rintro st ⟨H3, v3, rfl, c3, T3, f3⟩
      have hwl := wantT_len (w := w) (kp := kp) (i := ls.length) hin (by omega) (by omega)
      have hwb := wantT_byt (w := w) (kp := kp) (i := ls.length) hlb
      have hdn : (stT ls w kp ls.length).down = decide (w < ls.length) := by
        unfold stT
        split
        · rename_i hh; simp; omega
        · rename_i hh; simp; omega
      have hdd : (decide (w < ls.length)) = decide ((w : Int) < (ls.length : Int)) := by simp
      simp [down_ok T3, hdn, ww, eqV, hdd]
      refine Hx.mapp (wake_ok T3) ?_
      rintro ⟨_, H4⟩ ⟨rfl, v4, T4, c4, k4⟩
      simp only at T4 c4 k4
      simp
      refine Hx.mapp (read_ok T4) ?_
      rintro ⟨_, H5⟩ ⟨c5, x, rfl, mx, fx⟩
      have T5 := T4.keep c5
      have hwd : (wakeT (stT ls w kp ls.length)).down = false := rfl
      have hwb2 : (wakeT (stT ls w kp ls.length)).bs = wantT ls w kp ls.length := stT_bs
      rw [hwd, hwb2] at mx
      have hlen := fun k lo => len_ok (k := k) (lo := lo) T5
      rw [hwb2] at hlen
      have hdow := fun k lo => down_ok (k := k) (lo := lo) T5
      rw [hwd] at hdow
      simp only [Bool.false_eq_true, if_false] at mx
      have tx := toStr_b8 mx.sl
      have qq := strN_beq hwb hwb
      generalize wantT ls w kp ls.length = wt at *
      simp [hwd, tx, qq, hlen, hdow, strN_size]
theorem tapeFronts_main (H : AH) (ass : List (List AV)) (hl : ass.length = [22, 5, 5].length) (ha : ∀ (i : Nat) t al, [22, 5, 5][i]? = some t → ass[i]? = some al → AR ap 6 H t al) :
    Hx (callA ap 2000 (.func 3 [] []) (List.zipWith (argA ap) [22, 5, 5] ass) 0 H) fun r => r.1 = .bool true := by
  match ass, hl with
  | [a0, a1, a2], _ =>
    obtain ⟨v0, ls, rfl, h0, hb0⟩ := ar_bl (ha 0 22 a0 rfl rfl) ty22 rfl ty24 rfl rfl ty5 rfl rfl
    obtain ⟨z1, rfl, w1⟩ := ar_int (ha 1 5 a1 rfl rfl) ty5 rfl
    obtain ⟨z2, rfl, w2⟩ := ar_int (ha 2 5 a2 rfl rfl) ty5 rfl
    simp [Lit.wf, IntKind.has, IntKind.min, IntKind.max, IntKind.bits, IntKind.signed] at w1 w2
    obtain ⟨n1, rfl⟩ := Int.eq_ofNat_of_zero_le w1.1
    obtain ⟨n2, rfl⟩ := Int.eq_ofNat_of_zero_le w2.1
    simp only [List.zipWith_cons_cons, List.zipWith_nil_right, argA_one ty22 rfl, argA_one ty5 rfl]
    exact tapeFronts_ok h0 hb0 (by omega) (by omega)
end Go.Proofs.Ytpohdapcbcjidaa.T
