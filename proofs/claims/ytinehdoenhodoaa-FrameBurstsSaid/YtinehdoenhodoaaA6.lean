import Derived.Test.YtinehdoenhodoaaA5
import Derived.Test.YtinehdoenhodoaaAb22
/-! The document's Next. -/
set_option linter.unusedVariables false
set_option linter.unusedSimpArgs false
set_option maxHeartbeats 4000000
set_option maxRecDepth 100000
namespace Go.Proofs.Ytinehdoenhodoaa.T.Fm
open Go Go.Ab
theorem low_get (bs : List Int) {k : Nat} (hk : k < 4) : IntKind.u8.wrap (iand .u32 (ishr .u32 (crcL bs) (8 * (k : Int))) 255) = (low4 (crcL bs)).getD k 0 := by
  obtain ⟨n, h1, h2⟩ := crcL_nat bs
  rw [h1]
  have e : ishr .u32 (n : Int) (8 * (k : Int)) = ((n / 2 ^ (8 * k) : Nat) : Int) := by
    have := ishr_nat n (8 * k) (by omega)
    simpa using this
  have a8 : ishr .u32 (n : Int) 8 = ((n / 2 ^ 8 : Nat) : Int) := ishr_nat n 8 (by omega)
  have a16 : ishr .u32 (n : Int) 16 = ((n / 2 ^ 16 : Nat) : Int) := ishr_nat n 16 (by omega)
  have a24 : ishr .u32 (n : Int) 24 = ((n / 2 ^ 24 : Nat) : Int) := ishr_nat n 24 (by omega)
  rw [e]
  unfold low4
  rw [a8, a16, a24]
  obtain rfl | rfl | rfl | rfl : k = 0 ∨ k = 1 ∨ k = 2 ∨ k = 3 := by omega
  · simp [wrap_and255 (n := n) (by omega)]
  · exact wrap_and255 (by omega)
  · exact wrap_and255 (by omega)
  · exact wrap_and255 (by omega)
theorem ref_ok {H : AH} {v : AV} {bs : List Int} (h : B8 H v bs) (hb : Byt bs) (hl : bs.length ≤ 100000000000000) {k : Nat} (hk : bs.length + 20 < k) :
    Hx (callA ap k (.func 20 [] []) [v] 0 H) fun r => Chg [] H r.2 ∧ ∃ x, r.1 = .tuple [x, .int .i64 (nxt bs).2.1, .int .i64 (nxt bs).2.2] ∧ B8 r.2 x (nxt bs).1 ∧ ∀ i ∈ blk x, H.length ≤ i := by
  obtain ⟨k, rfl⟩ : ∃ k', k = k' + 2 := ⟨k - 2, by omega⟩
  rw [hx_go fn20 rfl, b20]
  obtain ⟨a, c, s, rfl⟩ := h.len8
  by_cases h2 : bs.length < 2
  · have h2' : (bs.length : Int) < 2 := by omega
    simp [f20, b20, h2', nxt, h2]
    exact ⟨.refl, .nil _ _⟩
  · have h2' : ¬ (bs.length : Int) < 2 := by omega
    have hget := fun i (hi : i < bs.length) => h.get8 (i := i) hi
    obtain ⟨b0, o0, c0, l0, e0, r0, g0⟩ := hget 0 (by omega)
    cases e0
    have gi : ∀ i, i < bs.length → l0[o0 + i]? = some (.int .u8 (bs.getD i 0)) := fun i hi => by
      obtain ⟨b1, o1, c1, l1, e1, r1, g1⟩ := hget i hi
      cases e1
      rw [r0] at r1; cases r1
      exact g1
    have g1 := gi 1 (by omega)
    have y0 := hb.get 0
    have y1 := hb.get 1
    have hn : (hdN bs : Int) = 256 * bs.getD 0 0 + bs.getD 1 0 := by unfold hdN; omega
    unfold nxt
    generalize hdN bs = n at *
    generalize bs.getD 0 0 = x0 at *
    generalize bs.getD 1 0 = x1 at *
    have w0 : IntKind.i64.wrap x0 = x0 := wrap_i64 (by omega) (by omega)
    have w1 : IntKind.i64.wrap x1 = x1 := wrap_i64 (by omega) (by omega)
    have w3 : IntKind.i64.wrap (256 * x0) = 256 * x0 := wrap_i64 (by omega) (by omega)
    have hor : IntKind.i64.wrap (256 * x0 + x1) = (n : Int) := by rw [wrap_i64 (by omega) (by omega), hn]
    have h1 : (1 : Int) < bs.length := by omega
    have h0 : 0 < bs.length := by omega
    have w6 : IntKind.i64.wrap ((n : Int) + 6) = (n : Int) + 6 := wrap_i64 (by omega) (by omega)
    have w2 : IntKind.i64.wrap ((n : Int) + 2) = (n : Int) + 2 := wrap_i64 (by omega) (by omega)
    rw [if_neg h2]
    simp only [Nat.add_zero] at g0
    simp [f20, b20, h2']
    refine hx_drawn dc20_3 fun H1 hc1 hl1 hd1 => ?_
    have r0' := hc1.row r0 (by simp)
    by_cases h400 : 400 < n
    · have h400' : 400 < (n : Int) := by omega
      simp [d20_3, r0', g0, g1, h1, h0, w0, w1, w3, hor, h400, h400']
      exact ⟨hc1, .nil _ _⟩
    have h400' : ¬ 400 < (n : Int) := by omega
    by_cases h6 : bs.length < n + 6
    · have h6' : (bs.length : Int) < (n : Int) + 6 := by omega
      simp [d20_3, r0', g0, g1, h1, h0, w0, w1, w3, hor, h400', w6, h6']
      simp [h400, h6]
      exact ⟨hc1, .nil _ _⟩
    have h6' : ¬ (bs.length : Int) < (n : Int) + 6 := by omega
    have hv := h.keep hc1
    obtain ⟨v2, a2, s2, k2, _⟩ := hv.cut8 (low := none) (high := some (.int .i64 ((n : Int) + 2))) (lo := 0) (hi := n + 2) (by omega) (by omega) (by simp [lowIs]) (by simp [highIs])
    rw [List.drop_zero] at s2
    have cS := crc_ok (lo := 0) (k := k + 1) s2.bs (by simp; omega) (by simp; omega)
    simp [d20_3, r0', g0, g1, h1, h0, w0, w1, w3, hor, h400', w6, w2, h6', a2, cS, h400, h6]
    have hlow := @low_get (bs.take (n + 2))
    generalize crcL (bs.take (n + 2)) = cc at *
    refine hx_up (fun i s => ∃ H', s = ⟨sp 59 [(0, .slice (some (b0, o0)) bs.length c 1), (5, .int .i64 n), (6, .int .u32 cc), (7, .int .i64 i)], H', []⟩ ∧ Chg [] H H' ∧ ∀ j < i, bs.getD (n + 2 + j) 0 = (low4 cc).getD j 0) 4 ?_ ?_ (by omega) ⟨H1, by simp [maskS], hc1, by simp⟩
    · rintro i s hi ⟨H2, rfl, hc2, hin⟩
      have hi4 : (i : Int) < 4 := by omega
      simp [hi4]
      refine hx_drawn dc20_12 fun H3 hc3 hl3 hd3 => ?_
      have r3 := (hc2.tr hc3).row r0 (by simp)
      have gg := gi (n + 2 + i) (by omega)
      have wi : IntKind.i64.wrap ((n : Int) + 2 + i) = ((n + 2 + i : Nat) : Int) := by rw [wrap_i64 (by omega) (by omega)]; omega
      have wl : ((n + 2 + i : Nat) : Int) < bs.length := by omega
      have w8 : IntKind.i64.wrap (8 * (i : Int)) = 8 * (i : Int) := wrap_i64 (by omega) (by omega)
      have s8 : ¬ 8 * (i : Int) < 0 := by omega
      have wi1 : IntKind.i64.wrap ((i : Int) + 1) = (i : Int) + 1 := wrap_i64 (by omega) (by omega)
      have hlw := hlow hi
      simp only [List.getD_eq_getElem?_getD] at gg hlw
      simp [d20_12, r3, gg, w2, wi, wl, w8, s8, hlw, condK_b, -Int.natCast_add]
      split
      · rename_i he
        simp [maskS, wi1]
        refine ⟨hc2.tr hc3, fun j hj => ?_⟩
        by_cases hji : j = i
        · subst hji; exact he
        · have := hin j (by omega)
          simpa [List.getD_eq_getElem?_getD] using this
      · rename_i he
        have hne : ¬ (bs.drop (n + 2)).take 4 = low4 cc := fun e => he (by
          rw [← e, List.getElem?_take_of_lt hi, List.getElem?_drop])
        simp [hne]
        exact ⟨hc2.tr hc3, .nil _ _⟩
    · rintro s ⟨H2, rfl, hc2, hin⟩
      have heq : (bs.drop (n + 2)).take 4 = low4 cc := eq_getD (by simp [low4]; omega) (fun j hj => by
        have hj4 : j < 4 := hj
        rw [← hin j hj4]
        simp only [List.getD_eq_getElem?_getD]
        rw [List.getElem?_take_of_lt hj4, List.getElem?_drop])
      have hc5 : Chg [] H (H2 ++ [.cells [] .rw]) := hc2.tr (.app _ _)
      have ow : Mine (H2 ++ [.cells [] .rw]) 1 (.slice (some (H2.length, 0)) 0 (some 0) 1) [] := Mine.new (l := []) (n := 0) (c := some 0) Nat.one_pos rfl (by simp) (by simp)
      obtain ⟨v5, a5, s5, k5, _⟩ := (h.keep hc5).cut8 (low := some (.int .i64 2)) (high := some (.int .i64 ((n : Int) + 2))) (lo := 2) (hi := n + 2) (by omega) (by omega) (by simp [lowIs]) (by simp [highIs])
      rw [List.drop_take, show n + 2 - 2 = n by omega] at s5
      simp [w2, a5, heq]
      refine Hx.mapp (ow.append s5 Nat.one_pos Nat.one_pos u8s_one (by simp [room]; omega)) ?_
      rintro ⟨v6, H6⟩ ⟨o6, c6, k6⟩
      simp [w6, heq]
      have hle := hc2.1
      have hle5 := hc5.1
      refine ⟨hc5.trans c6 (fun i hi => .inr ?_), by simpa using o6.sl, fun i hi => ?_⟩
      · simp at hi
        omega
      · rcases k6 i hi with hi | hi
        · simp at hi
          omega
        · omega
end Go.Proofs.Ytinehdoenhodoaa.T.Fm
