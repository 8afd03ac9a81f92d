import Derived.Test.YtinehdoenhodoaaA14
/-! FrameBursts. -/
set_option linter.unusedVariables false
set_option linter.unusedSimpArgs false
set_option maxHeartbeats 4000000
set_option maxRecDepth 100000
namespace Go.Proofs.Ytinehdoenhodoaa.T.Fm
open Go Go.Ab
theorem recB_len (b : List Int) : (recB b).length = b.length + 6 := by simp [recB, hd2, low4]
theorem hdN_rec {b : List Int} (hl : b.length ≤ 400) (rest : List Int) : hdN (recB b ++ rest) = b.length := by
  have e : recB b ++ rest = IntKind.u8.wrap (ishr .i64 b.length 8) :: IntKind.u8.wrap b.length :: (b ++ low4 (crcL (hd2 b.length ++ b)) ++ rest) := by simp [recB, hd2]
  have hs : ishr .i64 (b.length : Int) 8 = (b.length : Int) / 256 := by
    simp only [ishr, IntKind.bits]
    simp
    exact (Int.fdiv_eq_ediv_of_nonneg _ (by omega)).trans rfl
  unfold hdN
  rw [e]
  simp only [List.getD_cons_zero, List.getD_cons_succ]
  rw [hs, wrap_u8, wrap_u8]
  omega
theorem nxt_rec {b : List Int} (hl : b.length ≤ 400) (rest : List Int) : nxt (recB b ++ rest) = (b, b.length + 6, 0) := by
  unfold nxt
  rw [hdN_rec hl]
  have hlen : (recB b ++ rest).length = b.length + 6 + rest.length := by simp [recB_len]
  have hh : (hd2 b.length).length = 2 := rfl
  rw [if_neg (by omega), if_neg (by omega), if_neg (by omega)]
  have e1 : (recB b ++ rest).take (b.length + 2) = hd2 b.length ++ b := by
    unfold recB
    rw [List.append_assoc, List.take_left' (by simp [hh]; omega)]
  have e2 : ((recB b ++ rest).drop (b.length + 2)).take 4 = low4 (crcL (hd2 b.length ++ b)) := by
    unfold recB
    rw [List.append_assoc, List.drop_left' (by simp [hh]; omega)]
    exact List.take_left' rfl
  have e3 : ((recB b ++ rest).drop 2).take b.length = b := by
    unfold recB
    rw [List.append_assoc, List.append_assoc, List.drop_left' hh, List.take_left' rfl]
  rw [e1, e2, if_pos rfl, e3]
theorem hdN_rec' {b : List Int} (hl : b.length ≤ 400) : hdN (recB b) = b.length := by
  have := hdN_rec hl []
  rwa [List.append_nil] at this
theorem nxt_rec' {b : List Int} (hl : b.length ≤ 400) : (nxt (recB b)).2.2 = 0 := by
  have := nxt_rec hl []
  rw [List.append_nil] at this
  rw [this]
theorem recB_byt {b : List Int} (hB : Byt b) : Byt (recB b) := by
  unfold recB
  exact ((byt_cons (wrap_u8_in _) (byt_cons (wrap_u8_in _) byt_nil)).app hB).app (low4_byt _)
theorem nrec_0 {bs : List Int} (h : (nxt bs).2.2 = 13) : pos bs (nrec bs) = 0 := by
  have hno : okAt bs 0 = false := by
    unfold okAt pos
    rw [List.drop_zero, h]
    rfl
  have : nrec bs = 0 := by
    unfold nrec nrecF
    rw [if_neg (by simp [hno])]
  rw [this]
  rfl
section
variable {k : Nat} {H : AH}
theorem frameBursts_ok {v : AV} {bs : List Int} {at_ mask : Int} (hb : B8 H v bs) (hB : Byt bs) (ha : 0 ≤ at_ ∧ at_ < 65536) (hm : 0 ≤ mask ∧ mask < 4294967296) (hk : 600 < k) :
    Hx (callA ap k (.func 7 [] []) [v, .int .u16 at_, .int .u32 mask] 0 H) fun r => r.1 = .bool true := by
  obtain ⟨k, rfl⟩ : ∃ k', k = k' + 40 := ⟨k - 40, by omega⟩
  rw [hx_go fn7 rfl, b7]
  obtain ⟨a, c, s, rfl⟩ := hb.len8
  by_cases h4 : 400 < bs.length
  · have h4' : (400 : Int) < (bs.length : Int) := by omega
    simp [known_ok, h4']
  have h4' : ¬ (400 : Int) < (bs.length : Int) := by omega
  by_cases hm0 : mask = 0
  · simp [known_ok, h4', hm0]
  obtain ⟨m, hmm⟩ : ∃ m : BitVec 32, mask = (m.toNat : Int) := ⟨BitVec.ofInt 32 mask, by rw [BitVec.toNat_ofInt]; omega⟩
  have hmne : m ≠ 0#32 := fun e => by rw [e] at hmm; simp at hmm; exact hm0 hmm
  obtain ⟨N, hN⟩ : ∃ N, N = bs.length + 6 := ⟨_, rfl⟩
  have hput := put_ok (H := H) (v := .slice a bs.length c s) (bs := bs) hb.bs (by omega) hN (k := k + 39) (lo := 0) (Nat.zero_le _) (by omega)
  have w6 : IntKind.i64.wrap ((bs.length : Int) + 6) = (N : Int) := by rw [wrap_i64 (by omega) (by omega)]; omega
  have wa : IntKind.i64.wrap at_ = at_ := wrap_i64 (by omega) (by omega)
  have w8 : IntKind.i64.wrap (8 * (N : Int)) = 8 * (N : Int) := wrap_i64 (by omega) (by omega)
  have w47 : IntKind.i64.wrap (8 * (N : Int) - 47) = 8 * (N : Int) - 47 := wrap_i64 (by omega) (by omega)
  have h0 : ¬ (8 * (N : Int) - 47) = 0 := by omega
  have hr1 := Int.emod_nonneg at_ h0
  have hr2 := Int.emod_lt_of_pos at_ (b := 8 * (N : Int) - 47) (by omega)
  have ht : at_.tmod (8 * (N : Int) - 47) = at_ % (8 * (N : Int) - 47) := Int.tmod_eq_emod_of_nonneg ha.1
  obtain ⟨K, hK⟩ : ∃ K : Nat, (K : Int) = 16 + at_ % (8 * (N : Int) - 47) := ⟨(16 + at_ % (8 * (N : Int) - 47)).toNat, by omega⟩
  have wK : IntKind.i64.wrap (16 + at_ % (8 * (N : Int) - 47)) = (K : Int) := by rw [hK]; exact wrap_i64 (by omega) (by omega)
  have hK1 : 16 ≤ K ∧ K + 32 ≤ 8 * N := by omega
  have hlen := recB_len bs
  have hBr := recB_byt hB
  simp [known_ok, h4', hm0, hput, w6, wa, w8, w47, h0, ht, wK]
  obtain ⟨G, eG⟩ : ∃ G, G = H ++ [.cells (u8s (recB bs)) .rw, .cells (u8s (hd2 bs.length)) .rw, .cells (u8s (low4 (crcL (hd2 bs.length ++ bs)))) .rw] := ⟨_, rfl⟩
  have r0 : G[H.length]? = some (.cells (u8s (recB bs)) .rw) := by rw [eG]; simp
  rw [← eG]
  obtain ⟨t, ht_⟩ : ∃ t, t = recB bs := ⟨_, rfl⟩
  rw [← ht_] at r0 hlen hBr
  have htl : t.length = N := by rw [hlen, hN]
  refine hx_up (fun i s => ∃ H', s = ⟨sp 82 [(2, .int .u32 mask), (7, .slice (some (H.length, 0)) N (some N) 1), (9, .int .i64 K), (10, .int .i64 i)], H', []⟩ ∧ H'[H.length]? = some (.cells (u8s (turned t m K i)) .rw)) 32 ?_ ?_ (by omega)
    ⟨G, by simp [maskS], r0⟩
  · rintro i _ hi ⟨H1, rfl, r1⟩
    have hi' : (i : Int) < 32 := by omega
    have hn0 : ¬ (i : Int) < 0 := by omega
    have w1 : IntKind.i64.wrap ((i : Int) + 1) = (i : Int) + 1 := wrap_i64 (by omega) (by omega)
    have hsh : ishr .u32 mask (i : Int) = ((m >>> i).toNat : Int) := by rw [hmm]; exact ishrB m i (by omega)
    have hand := iandB (m >>> i)
    rw [BitVec.getLsbD_ushiftRight, Nat.add_zero] at hand
    obtain ⟨M, hM⟩ : ∃ M : Int, M = ((m >>> i).toNat : Int) := ⟨_, rfl⟩
    rw [← hM] at hand hsh
    cases hbit : m.getLsbD i with
    | false =>
      have hno : ¬ iand .u32 M 1 = 1 := fun h => by rw [hand.1 h] at hbit; cases hbit
      have htu : turned t m K (i + 1) = turned t m K i := by simp only [turned]; rw [hbit]; rfl
      simp [hi', hn0, hsh, hno, w1]
      exact ⟨H1, by simp [maskS], by rw [htu]; exact r1⟩
    | true =>
      have hyes := hand.2 hbit
      have htu : turned t m K (i + 1) = (turned t m K i).set ((K + i) / 8) (ixor .u8 ((turned t m K i).getD ((K + i) / 8) 0) (ishl .u8 1 (((K + i) % 8 : Nat) : Int))) := by simp only [turned]; rw [hbit]; rfl
      have hlt := turned_len t m K i
      obtain ⟨q, hq⟩ : ∃ q, q = (K + i) / 8 := ⟨_, rfl⟩
      obtain ⟨d, hd⟩ : ∃ d, d = (K + i) % 8 := ⟨_, rfl⟩
      have wKi : IntKind.i64.wrap ((K : Int) + (i : Int)) = ((K + i : Nat) : Int) := by rw [wrap_i64 (by omega) (by omega)]; omega
      have wq : IntKind.i64.wrap (((K + i : Nat) : Int).tdiv 8) = (q : Int) := by
        rw [Int.tdiv_eq_ediv_of_nonneg (by omega), wrap_i64 (by omega) (by omega)]; omega
      have wd : ((K + i : Nat) : Int).tmod 8 = (d : Int) := by rw [Int.tmod_eq_emod_of_nonneg (by omega)]; omega
      have hd0 : ¬ (d : Int) < 0 := by omega
      rw [← hq, ← hd] at htu
      simp [hi', hn0, hsh, hyes, w1]
      refine hx_drawn dc7_13 fun H2 c2 hl2 hd2 => ?_
      have r2 := c2.get r1 (by simp)
      have hqN : q < N := by omega
      have hqN' : (q : Int) < (N : Int) := by omega
      obtain ⟨z, hz⟩ : ∃ z, (turned t m K i).getD q 0 = z := ⟨_, rfl⟩
      obtain ⟨R, hR⟩ : ∃ R, R = u8s (turned t m K i) := ⟨_, rfl⟩
      have hRq : R[q]? = some (.int .u8 z) := by rw [hR, ← hz]; simp [u8s, List.getElem?_eq_getElem (by omega : q < (turned t m K i).length)]
      have hRl : R.length = N := by rw [hR]; simp; omega
      rw [hz] at htu
      obtain ⟨y, hy⟩ : ∃ y, ixor .u8 z (ishl .u8 1 (d : Int)) = y := ⟨_, rfl⟩
      rw [hy] at htu
      rw [← hR] at r2
      have q1 := rowOf_rw r2
      have q2 := rowRw_rw r2
      have hq1 : q + 1 ≤ R.length := by omega
      rw [show ((K + i : Nat) : Int) = (K : Int) + (i : Int) by omega] at wKi wq wd
      simp [d7_13, wKi, wq, wd, hd0, hqN, hqN', q1, q2, hRq, hy, hq1, w1]
      refine ⟨_, rfl, ?_⟩
      rw [List.getElem?_set_self (lt_of_get r2), htu]
      have hs := List.set_eq_take_append_cons_drop (l := R) (i := q) (a := AV.int .u8 y)
      rw [if_pos (by omega)] at hs
      rw [← hs, hR]
      simp [u8s, List.map_set]
  · rintro _ ⟨H1, rfl, r1⟩
    have hlt := turned_len t m K 32
    have hbt := turned_byt hBr m K 32
    have hbu := burst hBr (by rw [ht_, recB_len, hdN_rec' (by omega)]) (by rw [ht_, nxt_rec' (by omega)]) hmne hK1.1 (by rw [htl]; exact hK1.2)
    obtain ⟨tt, htt⟩ : ∃ tt, tt = turned t m K 32 := ⟨_, rfl⟩
    rw [← htt] at r1 hlt hbt hbu
    have sl : B8 H1 (.slice (some (H.length, 0)) N (some N) 1) tt := SL.mk Nat.one_pos (rowOf_rw r1) (by simp; omega) (by simp)
    simp
    refine Hx.mapp (next_ok sl hbt (by omega) (by omega)) ?_
    rintro ⟨r, H2⟩ ⟨c2, x, e, hx, -⟩
    simp only at e c2
    subst e
    simp [hbu]
    refine Hx.mapp (whole_ok (sl.keep c2) hbt (by omega) (by omega)) ?_
    rintro ⟨r, H3⟩ ⟨c3, e⟩
    simp only at e
    subst e
    simp [nrec_0 hbu]
end
end Go.Proofs.Ytinehdoenhodoaa.T.Fm
