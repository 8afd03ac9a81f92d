import Derived.Test.YtinehdoenhodoaaA3
import Derived.Test.YtinehdoenhodoaaAbD
/-! Next: the record at the beginning. -/
set_option linter.unusedVariables false
set_option linter.unusedSimpArgs false
set_option maxHeartbeats 4000000
set_option maxRecDepth 100000
namespace Go.Proofs.Ytinehdoenhodoaa.T.Fm
open Go Go.Ab
def hdN (bs : List Int) : Nat := (256 * bs.getD 0 0 + bs.getD 1 0).toNat
def nxt (bs : List Int) : List Int × Nat × Int :=
  if bs.length < 2 then ([], 0, 12) else if 400 < hdN bs then ([], 0, 13) else if bs.length < hdN bs + 6 then ([], 0, 12) else
  if (bs.drop (hdN bs + 2)).take 4 = low4 (crcL (bs.take (hdN bs + 2))) then ((bs.drop 2).take (hdN bs), hdN bs + 6, 0) else ([], 0, 13)
theorem conv_txt {H : AH} {v : AV} {bs : List Int} (h : B8 H v bs) : toStr H v = some (.str (strN bs)) := toStr_b8 h
theorem low4_byt (c : Int) : Byt (low4 c) := byt_cons (wrap_u8_in _) (byt_cons (wrap_u8_in _) (byt_cons (wrap_u8_in _) (byt_cons (wrap_u8_in _) byt_nil)))
theorem next_ok {H : AH} {v : AV} {bs : List Int} (h : B8 H v bs) (hb : Byt bs) (hl : bs.length ≤ 100000000000000) {k : Nat} (hk : bs.length + 20 < k) :
    Hx (callA ap k (.func 18 [] []) [v] 0 H) fun r => Chg [] H r.2 ∧ ∃ x, r.1 = .tuple [x, .int .i64 (nxt bs).2.1, .int .i64 (nxt bs).2.2] ∧ B8 r.2 x (nxt bs).1 ∧ ∀ i ∈ blk x, H.length ≤ i := by
  obtain ⟨k, rfl⟩ : ∃ k', k = k' + 2 := ⟨k - 2, by omega⟩
  rw [hx_go fn18 rfl, b18]
  obtain ⟨a, c, s, rfl⟩ := h.len8
  by_cases h2 : bs.length < 2
  · have h2' : (bs.length : Int) < 2 := by omega
    simp [f18, b18, h2', nxt, h2]
    exact ⟨.refl, .nil _ _⟩
  · have h2' : ¬ (bs.length : Int) < 2 := by omega
    obtain ⟨b0, o0, c0, l0, e0, r0, g0⟩ := h.get8 (i := 0) (by omega)
    obtain ⟨b1, o1, c1, l1, e1, r1, g1⟩ := h.get8 (i := 1) (by omega)
    cases e0; cases e1
    rw [r0] at r1; cases r1
    have y0 := hb.get 0
    have y1 := hb.get 1
    have hn : (hdN bs : Int) = 256 * bs.getD 0 0 + bs.getD 1 0 := by unfold hdN; omega
    unfold nxt
    generalize hdN bs = n at *
    generalize bs.getD 0 0 = x0 at *
    generalize bs.getD 1 0 = x1 at *
    have w0 : IntKind.i64.wrap x0 = x0 := wrap_i64 (by omega) (by omega)
    have w1 : IntKind.i64.wrap x1 = x1 := wrap_i64 (by omega) (by omega)
    have hor : ior .i64 (ishl .i64 x0 8) x1 = (n : Int) := by rw [ior_hi y0 y1, hn]
    have h1 : (1 : Int) < bs.length := by omega
    have h0 : 0 < bs.length := by omega
    have w6 : IntKind.i64.wrap ((n : Int) + 6) = (n : Int) + 6 := wrap_i64 (by omega) (by omega)
    have w2 : IntKind.i64.wrap ((n : Int) + 2) = (n : Int) + 2 := wrap_i64 (by omega) (by omega)
    rw [if_neg h2]
    simp only [Nat.add_zero] at g0
    simp [f18, b18, h2']
    refine hx_drawn dc18_3 fun H1 hc1 hl1 hd1 => ?_
    have r0' := hc1.row r0 (by simp)
    by_cases h400 : 400 < n
    · have h400' : 400 < (n : Int) := by omega
      simp [d18_3, r0', g0, g1, h1, h0, w0, w1, hor, h400, h400']
      exact ⟨hc1, .nil _ _⟩
    have h400' : ¬ 400 < (n : Int) := by omega
    by_cases h6 : bs.length < n + 6
    · have h6' : (bs.length : Int) < (n : Int) + 6 := by omega
      simp [d18_3, r0', g0, g1, h1, h0, w0, w1, hor, h400', w6, h6']
      simp [h400, h6]
      exact ⟨hc1, .nil _ _⟩
    have h6' : ¬ (bs.length : Int) < (n : Int) + 6 := by omega
    simp [d18_3, r0', g0, g1, h1, h0, w0, w1, hor, h400', w6, h6']
    clear hor w0 w1 g0 g1 hd1 hl1 r0'
    refine hx_drawn dc18_8 fun H2 hc2 hl2 hd2 => ?_
    replace hc2 := hc1.tr hc2
    have hv := h.keep hc2
    obtain ⟨v1, a1, s1, k1, _⟩ := hv.cut8 (low := some (.int .i64 ((n : Int) + 2))) (high := some (.int .i64 ((n : Int) + 6))) (lo := n + 2) (hi := n + 6) (by omega) (by omega) (by simp [lowIs]) (by simp [highIs])
    obtain ⟨v2, a2, s2, k2, _⟩ := hv.cut8 (low := none) (high := some (.int .i64 ((n : Int) + 2))) (lo := 0) (hi := n + 2) (by omega) (by omega) (by simp [lowIs]) (by simp [highIs])
    rw [List.drop_zero] at s2
    rw [List.drop_take, show n + 6 - (n + 2) = 4 by omega] at s1
    have cS := sum_ok (lo := 0) (k := k + 1) s2.bs (by simp; omega) (by simp; omega)
    have cL : callA ap (k + 1) (.func 19 [] []) [.int .u32 (crcL (bs.take (n + 2)))] 0 H2 = some (.slice (some (H2.length, 0)) 4 (some 4) 1, H2 ++ [.cells (u8s (low4 (crcL (bs.take (n + 2))))) .rw]) := low_ok
    have hc3 : Chg [] H2 (H2 ++ [.cells (u8s (low4 (crcL (bs.take (n + 2))))) .rw]) := .app _ _
    have t1 := toStr_b8 s1
    have a1' := aslice_chg hc3 (by simp) a1
    have t1' := toStr_b8 (s1.keep hc3)
    have t3 : toStr (H2 ++ [.cells (u8s (low4 (crcL (bs.take (n + 2))))) .rw]) (.slice (some (H2.length, 0)) 4 (some 4) 1) = some (.str (strN (low4 (crcL (bs.take (n + 2)))))) :=
      toStr_b8 (SL.mk Nat.one_pos (by simp [rowOf]) (by simp [low4]) (by simp))
    have q := strN_beq ((hb.drop (n + 2)).take 4) (low4_byt (crcL (bs.take (n + 2))))
    generalize hh3 : (H2 ++ [.cells (u8s (low4 (crcL (bs.take (n + 2))))) .rw]) = H3 at *
    by_cases hq : (bs.drop (n + 2)).take 4 = low4 (crcL (bs.take (n + 2)))
    · simp [d18_8, w2, w6, a1, t1, a2, cS, cL, t3, q, hq, a1', t1']
      clear t3 cL cS a2 t1 t1' a1 a1' q hh3
      refine hx_drawn dc18_10 fun H4 hc4 hl4 hd4 => ?_
      have hc5 : Chg [] H (H4.set (H3.length + 1) (.cells (List.replicate n (.int .u8 0)) .rw)) := ((hc2.tr hc3).tr (hc4.trans (Chg.set _ _ _) (by simp)))
      have ow : Mine (H4.set (H3.length + 1) (.cells (List.replicate n (.int .u8 0)) .rw)) 1 (.slice (some (H3.length + 1, 0)) 0 (some n) 1) [] :=
        .row _ _ _ (List.replicate n (.int .u8 0)) _ Nat.one_pos (List.getElem?_set_self (lt_of_get (hd4 1 (by simp [d18_10])))) (by simp) (by simp) (by simp)
      obtain ⟨v5, a5, s5, k5, _⟩ := (h.keep hc5).cut8 (low := some (.int .i64 2)) (high := some (.int .i64 ((n : Int) + 2))) (lo := 2) (hi := n + 2) (by omega) (by omega) (by simp [lowIs]) (by simp [highIs])
      rw [List.drop_take, show n + 2 - 2 = n by omega] at s5
      have hd := hd4 1 (by simp [d18_10])
      have hcm : canMake 0 n 1 1 := by unfold canMake room; omega
      simp [d18_10, w2, w6, hd, hcm]
      generalize (H4.set (H3.length + 1) (.cells (List.replicate n (.int .u8 0)) .rw)) = H5 at *
      simp [a5]
      refine Hx.mapp (ow.append s5 Nat.one_pos Nat.one_pos u8s_one (by simp [room]; omega)) ?_
      rintro ⟨v6, H6⟩ ⟨o6, c6, k6⟩
      simp [w6, h400, h6]
      have hle := (hc2.tr hc3).1
      have hle5 := hc5.1
      refine ⟨hc5.trans c6 (fun i hi => .inr ?_), by simpa using o6.sl, fun i hi => ?_⟩
      · simp at hi
        omega
      · rcases k6 i hi with hi | hi
        · simp at hi
          omega
        · omega
    · simp [d18_8, w2, w6, a1, t1, a2, cS, cL, t3, q, hq, a1', t1']
      simp [h400, h6]
      exact ⟨hc2.tr hc3, .nil _ _⟩
end Go.Proofs.Ytinehdoenhodoaa.T.Fm
