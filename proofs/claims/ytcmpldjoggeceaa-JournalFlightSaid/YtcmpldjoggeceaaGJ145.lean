import Derived.Test.YtcmpldjoggeceaaGJ144
import Derived.WideShapes
import Derived.Laws.BitsLemmas
import Derived.Laws.Bits64b
section
/-! What is known: written by wip/ab/abgen.py (an own program). -/
set_option maxRecDepth 100000
namespace Go.Proofs.Ytcmpldjoggeceaa.T
open Go Go.Ab
theorem agree : Agree Try.prog ap := agree0
end Go.Proofs.Ytcmpldjoggeceaa.T
end
section
/-! The sum of bytes, the program's and the document's. -/
set_option linter.unusedVariables false
set_option linter.unusedSimpArgs false
set_option maxHeartbeats 4000000
namespace Go.Proofs.Ytcmpldjoggeceaa.T.Fm
open Go Go.Ab
def crcBit (c : Int) : Int := if iand .u32 c 1 = 1 then ixor .u32 (ishr .u32 c 1) 3988292384 else ishr .u32 c 1
def iter8 (f : Int → Int) : Nat → Int → Int
  | 0, x => x
  | n + 1, x => f (iter8 f n x)
def crcByte (c x : Int) : Int := iter8 crcBit 8 (ixor .u32 c (IntKind.u32.wrap x))
def crcTo (bs : List Int) : Nat → Int
  | 0 => 4294967295
  | n + 1 => crcByte (crcTo bs n) (bs.getD n 0)
def crcL (bs : List Int) : Int := ixor .u32 4294967295 (crcTo bs bs.length)

theorem sum_ok {H : AH} {v : AV} {bs : List Int} (h : BS H v bs) (hl : bs.length ≤ 100000000000000) {k lo : Nat} (hk : bs.length + 9 < k) : callA ap k (.func 90 [] []) [v] lo H = some (.int .u32 (crcL bs), H) := by
  obtain ⟨k, rfl⟩ : ∃ k', k = k' + 1 := ⟨k - 1, by omega⟩
  rw [← Hx_eq, hx_go fn90 rfl, b90]
  obtain ⟨a, c, s, rfl⟩ := h.slice
  have hget := BS.get h
  simp [f90, b90]
  refine hx_for (fun i => ⟨[U,U,U,.int .u32 (crcTo bs i),U,U,U,.slice a bs.length c s,.int .i64 bs.length,.int .i64 i,U,U,U,U,U,U,U,U,U,U,U,U,U,U,U,U,U,U,U,U,U], H, []⟩) bs.length (fun i hi => ?_) ?_ (by omega) (by simp [maskS, crcTo])
  · obtain ⟨b, o, l, rfl, rfl, h1, h2⟩ := hget i hi
    simp at h2
    simp [hi, h1, h2]
    refine hx_for (fun j => ⟨[U,U,U,.int .u32 (iter8 crcBit j (ixor .u32 (crcTo bs i) (IntKind.u32.wrap (bs.getD i 0)))),U,U,U,.slice (some (b, o)) bs.length c 1,.int .i64 bs.length,.int .i64 i,U,U,U,U,U,U,U,.int .i64 j,U,U,U,U,U,U,U,U,U,U,U,U,U], H, []⟩) 8 (fun j hj => ?_) ?_ ?_ ?_
    · have hj' : (j : Int) < 8 := by omega
      have hw : IntKind.i64.wrap ((j : Int) + 1) = j + 1 := wrap_i64 (by omega) (by omega)
      simp [hj', condK_b]
      by_cases hc : iand .u32 (iter8 crcBit j (ixor .u32 (crcTo bs i) (IntKind.u32.wrap (bs.getD i 0)))) 1 = 1
      · simp at hc
        simp [hc, maskS, iter8, crcBit, hw]
      · simp at hc
        simp [hc, maskS, iter8, crcBit, hw]
    · have hw : IntKind.i64.wrap ((i : Int) + 1) = i + 1 := wrap_i64 (by omega) (by omega)
      simp [maskS, crcTo, crcByte, hw]
    · omega
    · simp [maskS, iter8, hi]
  · simp [crcL]
    rfl

theorem crc_ok {H : AH} {v : AV} {bs : List Int} (h : BS H v bs) (hl : bs.length ≤ 100000000000000) {k lo : Nat} (hk : bs.length + 9 < k) : callA ap k (.func 51 [] []) [v] lo H = some (.int .u32 (crcL bs), H) := by
  obtain ⟨k, rfl⟩ : ∃ k', k = k' + 1 := ⟨k - 1, by omega⟩
  rw [← Hx_eq, hx_go fn51 rfl, b51]
  obtain ⟨a, c, s, rfl⟩ := h.slice
  have hget := BS.get h
  simp [f51, b51]
  refine hx_for (fun i => ⟨[.slice a bs.length c s,U,U,.int .u32 (crcTo bs i),.int .i64 i,U,U,U,U,U,U,U,U,U,U,U,U,U,U,U,U,U,U,U,U,U,U,U,U,U,U,U,U,U], H, []⟩) bs.length (fun i hi => ?_) ?_ (by omega) (by simp [maskS, crcTo])
  · obtain ⟨b, o, l, rfl, rfl, h1, h2⟩ := hget i hi
    simp at h2
    simp [hi, h1, h2]
    refine hx_for (fun j => ⟨[.slice (some (b, o)) bs.length c 1,U,U,.int .u32 (iter8 crcBit j (ixor .u32 (crcTo bs i) (IntKind.u32.wrap (bs.getD i 0)))),.int .i64 i,.int .i64 j,U,U,U,U,U,U,U,U,U,U,U,U,U,U,U,U,U,U,U,U,U,U,U,U,U,U,U,U], H, []⟩) 8 (fun j hj => ?_) ?_ ?_ ?_
    · have hj' : (j : Int) < 8 := by omega
      have hw : IntKind.i64.wrap ((j : Int) + 1) = j + 1 := wrap_i64 (by omega) (by omega)
      simp [hj', condK_b]
      by_cases hc : iand .u32 (iter8 crcBit j (ixor .u32 (crcTo bs i) (IntKind.u32.wrap (bs.getD i 0)))) 1 = 1
      · simp at hc
        simp [hc, maskS, iter8, crcBit, hw]
      · simp at hc
        simp [hc, maskS, iter8, crcBit, hw]
    · have hw : IntKind.i64.wrap ((i : Int) + 1) = i + 1 := wrap_i64 (by omega) (by omega)
      simp [maskS, crcTo, crcByte, hw]
    · omega
    · simp [maskS, iter8, hi]
  · simp [crcL]
    rfl
end Go.Proofs.Ytcmpldjoggeceaa.T.Fm
end
section
/-! Records: the program's Put, the document's Frame. -/
set_option linter.unusedVariables false
set_option linter.unusedSimpArgs false
set_option maxHeartbeats 4000000
set_option maxRecDepth 100000
namespace Go.Proofs.Ytcmpldjoggeceaa.T.Fm
open Go Go.Ab
def low4 (c : Int) : List Int := [IntKind.u8.wrap c, IntKind.u8.wrap (ishr .u32 c 8), IntKind.u8.wrap (ishr .u32 c 16), IntKind.u8.wrap (ishr .u32 c 24)]
theorem low_ok {H : AH} {n : Int} {k lo : Nat} : callA ap (k + 1) (.func 89 [] []) [.int .u32 n] lo H = some (.slice (some (H.length, 0)) 4 (some 4) 1, H ++ [.cells (u8s (low4 n)) .rw]) := by
  rw [← Hx_eq, hx_go fn89 rfl, b89]
  simp [f89, b89, low4, u8s]
def hd2 (n : Nat) : List Int := [IntKind.u8.wrap (ishr .i64 n 8), IntKind.u8.wrap n]
def recB (bs : List Int) : List Int := hd2 bs.length ++ bs ++ low4 (crcL (hd2 bs.length ++ bs))
theorem put_ok {H : AH} {v : AV} {bs : List Int} (h : BS H v bs) (hl : bs.length ≤ 400) {N : Nat} (hN6 : N = bs.length + 6) {k lo : Nat} (hlo : lo ≤ H.length) (hk : bs.length + 20 < k) :
    callA ap k (.func 70 [] []) [v] lo H = some (.tuple [.slice (some (H.length, 0)) N (some N) 1, .int .i64 0],
      H ++ [.cells (u8s (recB bs)) .rw, .cells (u8s (hd2 bs.length)) .rw, .cells (u8s (low4 (crcL (hd2 bs.length ++ bs)))) .rw]) := by
  obtain ⟨k, rfl⟩ : ∃ k', k = k' + 2 := ⟨k - 2, by omega⟩
  rw [← Hx_eq, hx_go fn70 rfl, b70]
  obtain ⟨a, c, s, rfl⟩ := h.slice
  obtain ⟨n, hn⟩ : ∃ n, n = bs.length := ⟨_, rfl⟩
  rw [← hn] at h hl hN6 hk ⊢
  have h400 : ¬ (400 : Int) < n := by omega
  obtain ⟨m, hm⟩ : ∃ m : Int, m = (n : Int) + 6 := ⟨_, rfl⟩
  have hw : IntKind.i64.wrap ((n : Int) + 6) = m := by rw [hm]; exact wrap_i64 (by omega) (by omega)
  have hc : canMake 0 m 1 1 := by unfold canMake room; omega
  have hNm : m.toNat = N := by omega
  have hh : (hd2 n).length = 2 := rfl
  obtain ⟨R1, hR1, hr1⟩ : ∃ R : List Int, R.length = n + 4 ∧ (List.replicate N 0).drop 2 = R := ⟨_, by simp; omega, rfl⟩
  obtain ⟨R2, hR2, hr2⟩ : ∃ R : List Int, R.length = 4 ∧ R1.drop n = R := ⟨_, by simp; omega, rfl⟩
  have e1 : aappend lo (H ++ [.cells (List.replicate N (.int .u8 0)) .rw, .cells [.int .u8 (IntKind.u8.wrap (ishr .i64 n 8)), .int .u8 (IntKind.u8.wrap n)] .rw]) 1 1 (.slice (some (H.length, 0)) 0 (some N) 1) (.slice (some (H.length + 1, 0)) 2 (some 2) 1)
      = some (.slice (some (H.length, 0)) 2 (some N) 1, H ++ [.cells (u8s (hd2 n ++ R1)) .rw, .cells (u8s (hd2 n)) .rw]) := by
    have := append_in (H := H) (X := [.cells (u8s (hd2 n)) .rw]) (lo := lo) (n := 0) (cap := N) (bs := []) (rest := List.replicate N 0) (cs := hd2 n) (x := .slice (some (H.length + 1, 0)) 2 (some 2) 1) hlo (BS.new (H := H) (X := [.cells (u8s ([] ++ List.replicate N 0)) .rw, .cells (u8s (hd2 n)) .rw]) (.inl rfl) (i := 1) rfl hh.symm rfl) rfl (by rw [hh]; omega) (by rw [hh]; simp; omega)
    rw [hh, hr1] at this
    rw [show List.replicate N (AV.int .u8 0) = u8s ([] ++ List.replicate N 0) by simp [u8s]]
    exact this
  have e2 : aappend lo (H ++ [.cells (u8s (hd2 n ++ R1)) .rw, .cells (u8s (hd2 n)) .rw]) 1 1 (.slice (some (H.length, 0)) 2 (some N) 1) (.slice a n c s)
      = some (.slice (some (H.length, 0)) (2 + n) (some N) 1, H ++ [.cells (u8s (hd2 n ++ bs ++ R2)) .rw, .cells (u8s (hd2 n)) .rw]) := by
    have := append_in (H := H) (X := [.cells (u8s (hd2 n)) .rw]) (lo := lo) (n := 2) (cap := N) (bs := hd2 n) (rest := R1) (cs := bs) (x := .slice a n c s) hlo (h.app _) rfl (by omega) (by omega)
    rw [← hn, hr2] at this
    exact this
  have hb : BS (H ++ [.cells (u8s (hd2 n ++ bs ++ R2)) .rw, .cells (u8s (hd2 n)) .rw]) (.slice (some (H.length, 0)) (2 + n) (some N) 1) (hd2 n ++ bs) := by
    refine .at_ _ _ _ _ (u8s (hd2 n ++ bs ++ R2)) _ rowOf_new0 (by simp [hh]; omega) ?_ (by simp [hh]; omega)
    rw [List.drop_zero, u8s_take, List.take_left' (by simp [hh]; omega)]
  have e3 := sum_ok hb (by simp [hh]; omega) (k := k + 1) (lo := lo) (by simp [hh]; omega)
  have e4 : callA ap (k + 1) (.func 89 [] []) [.int .u32 (crcL (hd2 n ++ bs))] lo (H ++ [.cells (u8s (hd2 n ++ bs ++ R2)) .rw, .cells (u8s (hd2 n)) .rw]) = some (.slice (some (H.length + 2, 0)) 4 (some 4) 1, H ++ [.cells (u8s (hd2 n ++ bs ++ R2)) .rw, .cells (u8s (hd2 n)) .rw, .cells (u8s (low4 (crcL (hd2 n ++ bs)))) .rw]) := by
    rw [low_ok]; simp
  have hl4 : (low4 (crcL (hd2 n ++ bs))).length = 4 := rfl
  have e5 : aappend lo (H ++ [.cells (u8s (hd2 n ++ bs ++ R2)) .rw, .cells (u8s (hd2 n)) .rw, .cells (u8s (low4 (crcL (hd2 n ++ bs)))) .rw]) 1 1 (.slice (some (H.length, 0)) (2 + n) (some N) 1) (.slice (some (H.length + 2, 0)) 4 (some 4) 1)
      = some (.slice (some (H.length, 0)) N (some N) 1, H ++ [.cells (u8s (recB bs)) .rw, .cells (u8s (hd2 n)) .rw, .cells (u8s (low4 (crcL (hd2 n ++ bs)))) .rw]) := by
    have := append_in (H := H) (X := [.cells (u8s (hd2 n)) .rw, .cells (u8s (low4 (crcL (hd2 n ++ bs)))) .rw]) (lo := lo) (n := 2 + n) (cap := N) (bs := hd2 n ++ bs) (rest := R2) (cs := low4 (crcL (hd2 n ++ bs))) (x := .slice (some (H.length + 2, 0)) 4 (some 4) 1) hlo (BS.new (H := H) (X := [.cells (u8s (hd2 n ++ bs ++ R2)) .rw, .cells (u8s (hd2 n)) .rw, .cells (u8s (low4 (crcL (hd2 n ++ bs)))) .rw]) (.inl rfl) (i := 2) rfl hl4.symm rfl) (by simp [hh]; omega) (by rw [hl4]; omega) (by rw [hl4]; omega)
    rw [hl4, show 2 + n + 4 = N by omega, show R2.drop 4 = [] from List.drop_eq_nil_of_le (by omega), List.append_nil] at this
    unfold recB
    rw [← hn]
    exact this
  clear hm hr1 hr2 hR1 hR2 hb hN6 h hl hk
  simp only [List.append_assoc] at e2 e3 e4 e5
  generalize recB bs = rb at *
  simp [f70, b70, h400, hw, hc, hNm, e1, e2, e3, e4, e5]
end Go.Proofs.Ytcmpldjoggeceaa.T.Fm
end
section
/-! Records: the document's Frame. -/
set_option linter.unusedVariables false
set_option linter.unusedSimpArgs false
set_option maxHeartbeats 4000000
set_option maxRecDepth 100000
namespace Go.Proofs.Ytcmpldjoggeceaa.T.Fm
open Go Go.Ab
theorem crcL_nat (bs : List Int) : ∃ n : Nat, crcL bs = n ∧ n < 4294967296 := ixor_nat _ _
theorem low_eq {bs : List Int} : [IntKind.u8.wrap (iand .u32 (crcL bs) 255), IntKind.u8.wrap (iand .u32 (ishr .u32 (crcL bs) 8) 255), IntKind.u8.wrap (iand .u32 (ishr .u32 (crcL bs) 16) 255), IntKind.u8.wrap (ishr .u32 (crcL bs) 24)] = low4 (crcL bs) := by
  obtain ⟨n, h1, h2⟩ := crcL_nat bs
  have a8 := ishr_nat n 8 (by omega)
  have a16 := ishr_nat n 16 (by omega)
  simp only [Int.cast_ofNat_Int] at a8 a16
  unfold low4
  rw [h1]
  have b8 : ishr .u32 (n : Int) 8 = ((n / 2 ^ 8 : Nat) : Int) := a8
  have b16 : ishr .u32 (n : Int) 16 = ((n / 2 ^ 16 : Nat) : Int) := a16
  rw [b8, b16, wrap_and255 h2, wrap_and255 (by omega), wrap_and255 (by omega)]
theorem frame_some {H : AH} {v : AV} {bs : List Int} (h : BS H v bs) (hl : bs.length ≤ 400) (h0 : bs ≠ []) {k lo : Nat} (hlo : lo ≤ H.length) (hk : bs.length + 20 < k) :
    ∃ X s, callA ap k (.func 28 [] []) [v] lo H = some (.tuple [s, .int .i64 0], H ++ X) ∧ BS (H ++ X) s (recB bs) := by
  obtain ⟨k, rfl⟩ : ∃ k', k = k' + 2 := ⟨k - 2, by omega⟩
  obtain ⟨a, c, s, rfl⟩ := h.slice
  obtain ⟨n, hn⟩ : ∃ n, n = bs.length := ⟨_, rfl⟩
  have hpos : 0 < bs.length := List.length_pos_iff.2 h0
  rw [← hn] at h hl hk hpos ⊢
  have h400 : ¬ (400 : Int) < n := by omega
  have hh : (hd2 n).length = 2 := rfl
  have hl4 : (low4 (crcL (hd2 n ++ bs))).length = 4 := rfl
  have q1 := hd_hi hl
  have q2 := hd_lo hl
  have e1 : aappend lo (H ++ [.cells [.int .u8 (IntKind.u8.wrap (ishr .i64 n 8)), .int .u8 (IntKind.u8.wrap n)] .rw]) 1 1 (.slice (some (H.length, 0)) 2 (some 2) 1) (.slice a n c s)
      = some (.slice (some (H.length + 1, 0)) (2 + n) none 1, H ++ [.cells (u8s (hd2 n)) .rw, .cells (u8s (hd2 n ++ bs)) .rw]) := by
    have := append_new (H := H ++ [.cells (u8s (hd2 n)) .rw]) (lo := lo) (n := 2) (m := 2 + n) (c := 2) (bs := hd2 n) (cs := bs) (x := .slice a n c s) (BS.new (H := H) (X := [.cells (u8s (hd2 n)) .rw]) (.inl rfl) (i := 0) rfl hh.symm rfl) (h.app _) hh.symm (by omega) h0 (by unfold room; omega) (by omega)
    simpa [hd2, u8s] using this
  have hb : BS (H ++ [.cells (u8s (hd2 n)) .rw, .cells (u8s (hd2 n ++ bs)) .rw]) (.slice (some (H.length + 1, 0)) (2 + n) none 1) (hd2 n ++ bs) :=
    BS.new (H := H) (X := [.cells (u8s (hd2 n)) .rw, .cells (u8s (hd2 n ++ bs)) .rw]) (.inl rfl) (i := 1) rfl (by simp [hh]; omega) rfl
  have e2 := crc_ok hb (by simp [hh]; omega) (k := k + 1) (lo := lo) (by simp [hh]; omega)
  have hle := @low_eq (hd2 n ++ bs)
  obtain ⟨Y, s', e3, hs'⟩ : ∃ Y s', aappend lo (H ++ [.cells (u8s (hd2 n)) .rw, .cells (u8s (hd2 n ++ bs)) .rw, .cells [.int .u8 (IntKind.u8.wrap (iand .u32 (crcL (hd2 n ++ bs)) 255)), .int .u8 (IntKind.u8.wrap (iand .u32 (ishr .u32 (crcL (hd2 n ++ bs)) 8) 255)), .int .u8 (IntKind.u8.wrap (iand .u32 (ishr .u32 (crcL (hd2 n ++ bs)) 16) 255)), .int .u8 (IntKind.u8.wrap (ishr .u32 (crcL (hd2 n ++ bs)) 24))] .rw]) 1 1 (.slice (some (H.length + 1, 0)) (2 + n) none 1) (.slice (some (H.length + 2, 0)) 4 (some 4) 1)
      = some (s', H ++ Y) ∧ BS (H ++ Y) s' (recB bs) := by
    have e0 : [AV.int .u8 (IntKind.u8.wrap (iand .u32 (crcL (hd2 n ++ bs)) 255)), .int .u8 (IntKind.u8.wrap (iand .u32 (ishr .u32 (crcL (hd2 n ++ bs)) 8) 255)), .int .u8 (IntKind.u8.wrap (iand .u32 (ishr .u32 (crcL (hd2 n ++ bs)) 16) 255)), .int .u8 (IntKind.u8.wrap (ishr .u32 (crcL (hd2 n ++ bs)) 24))] = u8s (low4 (crcL (hd2 n ++ bs))) := by rw [← hle]; rfl
    rw [e0]
    have := append_own (H := H ++ [.cells (u8s (hd2 n)) .rw, .cells (u8s (hd2 n ++ bs)) .rw, .cells (u8s (low4 (crcL (hd2 n ++ bs)))) .rw]) (lo := lo) (n := 2 + n) (m := 2 + n + 4) (b := H.length + 1) (bs := hd2 n ++ bs) (cs := low4 (crcL (hd2 n ++ bs))) (x := .slice (some (H.length + 2, 0)) 4 (some 4) 1)
      (by rw [List.getElem?_append_right (by omega)]; simp) (by omega) (BS.new (H := H) (X := [.cells (u8s (hd2 n)) .rw, .cells (u8s (hd2 n ++ bs)) .rw, .cells (u8s (low4 (crcL (hd2 n ++ bs)))) .rw]) (.inl rfl) (i := 2) rfl hl4.symm rfl) (by simp [hh]; omega) (by simp [low4]) (by rw [hl4]; unfold room; omega) (by rw [hl4])
    refine ⟨_, _, by rw [this, set_new, List.append_assoc], ?_⟩
    have hrec : hd2 n ++ bs ++ low4 (crcL (hd2 n ++ bs)) = recB bs := by unfold recB; rw [← hn]
    rw [hrec]
    refine BS.new (.inl rfl) (i := 3) rfl ?_ (by simp)
    unfold recB; simp [← hn, hh, hl4]; omega
  refine ⟨Y, s', ?_, hs'⟩
  rw [← Hx_eq, hx_go fn28 rfl, b28]
  clear hs' hb hle hk hl hn h
  simp [f28, b28, h400, q1, q2, e1, e2, e3]
theorem append_zero {H : AH} {lo n : Nat} {p : Nat × Nat} {c : Option Nat} {x : AV} (hx : BS H x []) : aappend lo H 1 1 (.slice (some p) n c 1) x = some (.slice (some p) n c 1, H) := by
  have hf := hx.first
  obtain ⟨a', c', s', rfl⟩ := hx.slice
  have hs := hx.sz
  unfold aappend
  simp only [szOk_some, hs, lenOf, Option.bind_some, hf]
  simp [u8s]
theorem frame_none {H : AH} {v : AV} (h : BS H v []) {k lo : Nat} (hlo : lo ≤ H.length) (hk : 20 < k) :
    ∃ X s, callA ap k (.func 28 [] []) [v] lo H = some (.tuple [s, .int .i64 0], H ++ X) ∧ BS (H ++ X) s (recB []) := by
  obtain ⟨k, rfl⟩ : ∃ k', k = k' + 2 := ⟨k - 2, by omega⟩
  obtain ⟨a, c, s, rfl⟩ := h.slice
  obtain ⟨n, hn⟩ : ∃ n : Nat, n = 0 := ⟨_, rfl⟩
  simp only [List.length_nil] at h ⊢
  rw [← hn] at h ⊢
  have h400 : ¬ (400 : Int) < n := by omega
  have hh : (hd2 n).length = 2 := rfl
  have hl4 : (low4 (crcL (hd2 n))).length = 4 := rfl
  have q1 := hd_hi (n := n) (by omega)
  have q2 := hd_lo (n := n) (by omega)
  have e1 : aappend lo (H ++ [.cells [.int .u8 (IntKind.u8.wrap (ishr .i64 n 8)), .int .u8 (IntKind.u8.wrap n)] .rw]) 1 1 (.slice (some (H.length, 0)) 2 (some 2) 1) (.slice a n c s)
      = some (.slice (some (H.length, 0)) 2 (some 2) 1, H ++ [.cells (u8s (hd2 n)) .rw]) := by
    rw [append_zero (h.app _)]; rfl
  have hb : BS (H ++ [.cells (u8s (hd2 n)) .rw]) (.slice (some (H.length, 0)) 2 (some 2) 1) (hd2 n) :=
    BS.new (H := H) (X := [.cells (u8s (hd2 n)) .rw]) (.inl rfl) (i := 0) rfl hh.symm rfl
  have e2 := crc_ok hb (by rw [hh]; omega) (k := k + 1) (lo := lo) (by rw [hh]; omega)
  have hle := @low_eq (hd2 n)
  obtain ⟨Y, s', e3, hs'⟩ : ∃ Y s', aappend lo (H ++ [.cells (u8s (hd2 n)) .rw, .cells [.int .u8 (IntKind.u8.wrap (iand .u32 (crcL (hd2 n)) 255)), .int .u8 (IntKind.u8.wrap (iand .u32 (ishr .u32 (crcL (hd2 n)) 8) 255)), .int .u8 (IntKind.u8.wrap (iand .u32 (ishr .u32 (crcL (hd2 n)) 16) 255)), .int .u8 (IntKind.u8.wrap (ishr .u32 (crcL (hd2 n)) 24))] .rw]) 1 1 (.slice (some (H.length, 0)) 2 (some 2) 1) (.slice (some (H.length + 1, 0)) 4 (some 4) 1)
      = some (s', H ++ Y) ∧ BS (H ++ Y) s' (recB []) := by
    have e0 : [AV.int .u8 (IntKind.u8.wrap (iand .u32 (crcL (hd2 n)) 255)), .int .u8 (IntKind.u8.wrap (iand .u32 (ishr .u32 (crcL (hd2 n)) 8) 255)), .int .u8 (IntKind.u8.wrap (iand .u32 (ishr .u32 (crcL (hd2 n)) 16) 255)), .int .u8 (IntKind.u8.wrap (ishr .u32 (crcL (hd2 n)) 24))] = u8s (low4 (crcL (hd2 n))) := by rw [← hle]; rfl
    rw [e0]
    have := append_new (H := H ++ [.cells (u8s (hd2 n)) .rw, .cells (u8s (low4 (crcL (hd2 n)))) .rw]) (lo := lo) (n := 2) (m := 6) (c := 2) (bs := hd2 n) (cs := low4 (crcL (hd2 n))) (x := .slice (some (H.length + 1, 0)) 4 (some 4) 1)
      (BS.new (H := H) (X := [.cells (u8s (hd2 n)) .rw, .cells (u8s (low4 (crcL (hd2 n)))) .rw]) (.inl rfl) (i := 0) rfl hh.symm rfl) (BS.new (H := H) (X := [.cells (u8s (hd2 n)) .rw, .cells (u8s (low4 (crcL (hd2 n)))) .rw]) (.inl rfl) (i := 1) rfl hl4.symm rfl) hh.symm (by rw [hl4]; omega) (by simp [low4]) (by rw [hl4]; unfold room; omega) (by rw [hl4])
    rw [Nat.add_zero] at this
    refine ⟨_, _, by rw [this, List.append_assoc], ?_⟩
    have hrec : hd2 n ++ low4 (crcL (hd2 n)) = recB [] := by unfold recB; rw [hn]; rfl
    rw [hrec]
    refine BS.new (.inl rfl) (i := 2) rfl ?_ (by simp)
    rfl
  refine ⟨Y, s', ?_, hs'⟩
  rw [← Hx_eq, hx_go fn28 rfl, b28]
  clear hs' hb hle hk hn h
  simp [f28, b28, h400, q1, q2, e1, e2, e3]
theorem frame_ok {H : AH} {v : AV} {bs : List Int} (h : BS H v bs) (hl : bs.length ≤ 400) {k lo : Nat} (hlo : lo ≤ H.length) (hk : bs.length + 20 < k) :
    ∃ X s, callA ap k (.func 28 [] []) [v] lo H = some (.tuple [s, .int .i64 0], H ++ X) ∧ BS (H ++ X) s (recB bs) := by
  by_cases h0 : bs = []
  · subst h0; exact frame_none h hlo hk
  · exact frame_some h hl h0 hlo hk
theorem put_long {H : AH} {v : AV} {bs : List Int} (h : BS H v bs) (hl : 400 < bs.length) {k lo : Nat} : callA ap (k + 1) (.func 70 [] []) [v] lo H = some (.tuple [.slice none 0 (some 0) 0, .int .i64 1], H) := by
  obtain ⟨a, c, s, rfl⟩ := h.slice
  have h400 : (400 : Int) < bs.length := by omega
  rw [← Hx_eq, hx_go fn70 rfl, b70]
  simp [f70, b70, h400]
theorem frame_long {H : AH} {v : AV} {bs : List Int} (h : BS H v bs) (hl : 400 < bs.length) {k lo : Nat} : callA ap (k + 1) (.func 28 [] []) [v] lo H = some (.tuple [.slice none 0 (some 0) 0, .int .i64 1], H) := by
  obtain ⟨a, c, s, rfl⟩ := h.slice
  have h400 : (400 : Int) < bs.length := by omega
  rw [← Hx_eq, hx_go fn28 rfl, b28]
  simp [f28, b28, h400]
end Go.Proofs.Ytcmpldjoggeceaa.T.Fm
end
section
/-! The drawn regions, one operation behind the other. Written by wip/ab/abgen.py (an own program). -/
set_option linter.unusedVariables false
set_option maxRecDepth 100000
namespace Go.Proofs.Ytcmpldjoggeceaa.T
open Go Go.Ab
def d3_21 : List DP := [⟨0, ⟨some 73, .move (.tmp 17), 3, none, true⟩, .q, []⟩,
  ⟨1, ⟨some 74, .load 3 (.tmp 16), 3, none, true⟩, .h, []⟩,
  ⟨2, ⟨some 75, .binOp .neq 3 (.tmp 73) (.tmp 74) 3, 4, none, true⟩, .q, []⟩,
  ⟨3, ⟨some 76, .move (.tmp 75), 4, none, true⟩, .q, []⟩,
  ⟨4, ⟨some 77, .load 38 (.tmp 18), 38, some (some 76), false⟩, .h, []⟩,
  ⟨5, ⟨some 78, .load 30 (.tmp 7), 30, some (some 76), false⟩, .h, []⟩,
  ⟨6, ⟨some 79, .load 3 (.tmp 16), 3, some (some 76), false⟩, .h, []⟩,
  ⟨7, ⟨some 80, .indexAddr 30 (.tmp 78) (.tmp 79), 0, some (some 76), false⟩, .q, []⟩,
  ⟨8, ⟨some 81, .load 38 (.tmp 80), 38, some (some 76), false⟩, .h, []⟩,
  ⟨9, ⟨some 82, .binOp .neq 38 (.tmp 77) (.tmp 81) 38, 4, some (some 76), false⟩, .q, []⟩,
  ⟨10, ⟨some 83, .pick (.tmp 76) (.const (.bool true)) (.tmp 82), 4, none, true⟩, .q, []⟩]
theorem dc3_21 : drawC ap (drawOf T.c3 21).toList [0, 1, 2, 3, 4, 5, 6, 7, 8, 9, 10] [[], [], [0, 1], [0, 1, 2], [0, 1, 2, 3], [0, 1, 2, 3], [0, 1, 2, 3], [0, 1, 2, 3, 5, 6], [0, 1, 2, 3, 5, 6, 7], [0, 1, 2, 3, 4, 5, 6, 7, 8], [0, 1, 2, 3, 4, 5, 6, 7, 8, 9]] = some d3_21 := by kernel_rfl
def d4_26 : List DP := [⟨0, ⟨some 105, .move (.tmp 15), 34, none, true⟩, .q, []⟩,
  ⟨1, ⟨some 106, .binOp .eql 34 (.tmp 105) (.const (.int .i64 0)) 34, 4, none, true⟩, .q, []⟩,
  ⟨2, ⟨some 107, .move (.tmp 106), 4, none, true⟩, .q, []⟩,
  ⟨3, ⟨some 108, .move (.tmp 18), 34, some (some 107), true⟩, .q, []⟩,
  ⟨4, ⟨some 109, .binOp .eql 34 (.tmp 108) (.const (.int .i64 0)) 34, 4, some (some 107), true⟩, .q, []⟩,
  ⟨5, ⟨some 110, .pick (.tmp 107) (.tmp 109) (.const (.bool false)), 4, none, true⟩, .q, []⟩,
  ⟨6, ⟨some 111, .move (.tmp 110), 4, none, true⟩, .q, []⟩,
  ⟨7, ⟨some 112, .load 28 (.tmp 13), 28, some (some 111), true⟩, .h, []⟩,
  ⟨8, ⟨some 113, .load 28 (.tmp 6), 28, some (some 111), true⟩, .h, []⟩,
  ⟨9, ⟨some 114, .call (⟨.value (.func 18), #[.tmp 112, .tmp 113], #[28, 28]⟩), 4, some (some 111), true⟩, .e, []⟩,
  ⟨10, ⟨some 115, .pick (.tmp 111) (.tmp 114) (.const (.bool false)), 4, none, true⟩, .q, []⟩,
  ⟨11, ⟨some 116, .move (.tmp 115), 4, none, true⟩, .q, []⟩,
  ⟨12, ⟨some 117, .load 28 (.tmp 16), 28, some (some 116), true⟩, .h, []⟩,
  ⟨13, ⟨some 118, .load 28 (.tmp 6), 28, some (some 116), true⟩, .h, []⟩,
  ⟨14, ⟨some 119, .call (⟨.value (.func 18), #[.tmp 117, .tmp 118], #[28, 28]⟩), 4, some (some 116), true⟩, .e, []⟩,
  ⟨15, ⟨some 120, .pick (.tmp 116) (.tmp 119) (.const (.bool false)), 4, none, true⟩, .q, []⟩,
  ⟨16, ⟨some 121, .move (.tmp 120), 4, none, true⟩, .q, []⟩,
  ⟨17, ⟨some 122, .move (.tmp 14), 30, some (some 121), true⟩, .q, []⟩,
  ⟨18, ⟨some 123, .move (.tmp 7), 30, some (some 121), true⟩, .q, []⟩,
  ⟨19, ⟨some 124, .move (.tmp 12), 3, some (some 121), true⟩, .q, []⟩,
  ⟨20, ⟨some 125, .slice 30 (.tmp 123) none (some (.tmp 124)) none, 30, some (some 121), true⟩, .h, []⟩,
  ⟨21, ⟨some 126, .call (⟨.value (.func 19), #[.tmp 122, .tmp 125], #[30, 30]⟩), 4, some (some 121), true⟩, .e, []⟩,
  ⟨22, ⟨some 127, .pick (.tmp 121) (.tmp 126) (.const (.bool false)), 4, none, true⟩, .q, []⟩,
  ⟨23, ⟨some 128, .move (.tmp 127), 4, none, true⟩, .q, []⟩,
  ⟨24, ⟨some 129, .move (.tmp 17), 30, some (some 128), true⟩, .q, []⟩,
  ⟨25, ⟨some 130, .move (.tmp 14), 30, some (some 128), true⟩, .q, []⟩,
  ⟨26, ⟨some 131, .call (⟨.value (.func 19), #[.tmp 129, .tmp 130], #[30, 30]⟩), 4, some (some 128), true⟩, .e, []⟩,
  ⟨27, ⟨some 132, .pick (.tmp 128) (.tmp 131) (.const (.bool false)), 4, none, true⟩, .q, []⟩,
  ⟨28, ⟨some 133, .move (.tmp 132), 4, none, true⟩, .q, []⟩,
  ⟨29, ⟨some 134, .move (.tmp 8), 32, some (some 133), true⟩, .q, []⟩,
  ⟨31, ⟨some 136, .move (.tmp 9), 52, some (some 133), true⟩, .q, []⟩,
  ⟨32, ⟨some 137, .move (.tmp 12), 3, some (some 133), true⟩, .q, []⟩,
  ⟨33, ⟨some 138, .indexAddr 52 (.tmp 136) (.tmp 137), 0, some (some 133), true⟩, .q, []⟩,
  ⟨34, ⟨some 139, .load 3 (.tmp 138), 3, some (some 133), true⟩, .h, [5]⟩,
  ⟨30, ⟨some 135, .call (⟨.value (.func 20), #[.tmp 134], #[32]⟩), 3, some (some 133), true⟩, .e, []⟩,
  ⟨35, ⟨some 140, .binOp .eql 3 (.tmp 135) (.tmp 139) 3, 4, some (some 133), true⟩, .q, []⟩,
  ⟨36, ⟨some 141, .pick (.tmp 133) (.tmp 140) (.const (.bool false)), 4, none, true⟩, .q, []⟩,
  ⟨37, ⟨some 4, .assign (.tmp 141), 4, none, true⟩, .q, []⟩]
theorem dc4_26 : drawC ap (drawOf T.c4 26).toList [0, 1, 2, 3, 4, 5, 6, 7, 8, 9, 10, 11, 12, 13, 14, 15, 16, 17, 18, 19, 20, 21, 22, 23, 24, 25, 26, 27, 28, 29, 31, 32, 33, 34, 30, 35, 36, 37] [[], [0], [0, 1], [0, 1, 2], [0, 1, 2, 3], [0, 1, 2, 3, 4], [0, 1, 2, 3, 4, 5], [0, 1, 2, 3, 4, 5, 6], [0, 1, 2, 3, 4, 5, 6], [0, 1, 2, 3, 4, 5, 6, 7, 8], [0, 1, 2, 3, 4, 5, 6, 7, 8, 9], [0, 1, 2, 3, 4, 5, 6, 7, 8, 9, 10], [0, 1, 2, 3, 4, 5, 6, 7, 8, 9, 10, 11], [0, 1, 2, 3, 4, 5, 6, 7, 8, 9, 10, 11], [0, 1, 2, 3, 4, 5, 6, 7, 8, 9, 10, 11, 12, 13], [0, 1, 2, 3, 4, 5, 6, 7, 8, 9, 10, 11, 12, 13, 14], [0, 1, 2, 3, 4, 5, 6, 7, 8, 9, 10, 11, 12, 13, 14, 15], [0, 1, 2, 3, 4, 5, 6, 7, 8, 9, 10, 11, 12, 13, 14, 15, 16], [0, 1, 2, 3, 4, 5, 6, 7, 8, 9, 10, 11, 12, 13, 14, 15, 16], [0, 1, 2, 3, 4, 5, 6, 7, 8, 9, 10, 11, 12, 13, 14, 15, 16], [0, 1, 2, 3, 4, 5, 6, 7, 8, 9, 10, 11, 12, 13, 14, 15, 16, 18, 19], [0, 1, 2, 3, 4, 5, 6, 7, 8, 9, 10, 11, 12, 13, 14, 15, 16, 17, 18, 19, 20], [0, 1, 2, 3, 4, 5, 6, 7, 8, 9, 10, 11, 12, 13, 14, 15, 16, 17, 18, 19, 20, 21], [0, 1, 2, 3, 4, 5, 6, 7, 8, 9, 10, 11, 12, 13, 14, 15, 16, 17, 18, 19, 20, 21, 22], [0, 1, 2, 3, 4, 5, 6, 7, 8, 9, 10, 11, 12, 13, 14, 15, 16, 17, 18, 19, 20, 21, 22, 23], [0, 1, 2, 3, 4, 5, 6, 7, 8, 9, 10, 11, 12, 13, 14, 15, 16, 17, 18, 19, 20, 21, 22, 23], [0, 1, 2, 3, 4, 5, 6, 7, 8, 9, 10, 11, 12, 13, 14, 15, 16, 17, 18, 19, 20, 21, 22, 23, 24, 25], [0, 1, 2, 3, 4, 5, 6, 7, 8, 9, 10, 11, 12, 13, 14, 15, 16, 17, 18, 19, 20, 21, 22, 23, 24, 25, 26], [0, 1, 2, 3, 4, 5, 6, 7, 8, 9, 10, 11, 12, 13, 14, 15, 16, 17, 18, 19, 20, 21, 22, 23, 24, 25, 26, 27], [0, 1, 2, 3, 4, 5, 6, 7, 8, 9, 10, 11, 12, 13, 14, 15, 16, 17, 18, 19, 20, 21, 22, 23, 24, 25, 26, 27, 28], [0, 1, 2, 3, 4, 5, 6, 7, 8, 9, 10, 11, 12, 13, 14, 15, 16, 17, 18, 19, 20, 21, 22, 23, 24, 25, 26, 27, 28, 29], [0, 1, 2, 3, 4, 5, 6, 7, 8, 9, 10, 11, 12, 13, 14, 15, 16, 17, 18, 19, 20, 21, 22, 23, 24, 25, 26, 27, 28], [0, 1, 2, 3, 4, 5, 6, 7, 8, 9, 10, 11, 12, 13, 14, 15, 16, 17, 18, 19, 20, 21, 22, 23, 24, 25, 26, 27, 28], [0, 1, 2, 3, 4, 5, 6, 7, 8, 9, 10, 11, 12, 13, 14, 15, 16, 17, 18, 19, 20, 21, 22, 23, 24, 25, 26, 27, 28, 31, 32], [0, 1, 2, 3, 4, 5, 6, 7, 8, 9, 10, 11, 12, 13, 14, 15, 16, 17, 18, 19, 20, 21, 22, 23, 24, 25, 26, 27, 28, 31, 32, 33], [0, 1, 2, 3, 4, 5, 6, 7, 8, 9, 10, 11, 12, 13, 14, 15, 16, 17, 18, 19, 20, 21, 22, 23, 24, 25, 26, 27, 28, 29, 30, 31, 32, 33, 34], [0, 1, 2, 3, 4, 5, 6, 7, 8, 9, 10, 11, 12, 13, 14, 15, 16, 17, 18, 19, 20, 21, 22, 23, 24, 25, 26, 27, 28, 29, 30, 31, 32, 33, 34, 35], [0, 1, 2, 3, 4, 5, 6, 7, 8, 9, 10, 11, 12, 13, 14, 15, 16, 17, 18, 19, 20, 21, 22, 23, 24, 25, 26, 27, 28, 29, 30, 31, 32, 33, 34, 35, 36]] = some d4_26 := by kernel_rfl
def d7_17 : List DP := [⟨0, ⟨some 45, .move (.tmp 9), 32, none, true⟩, .q, []⟩,
  ⟨1, ⟨some 46, .move (.tmp 10), 57, none, true⟩, .q, []⟩,
  ⟨2, ⟨some 47, .load 28 (.tmp 8), 28, none, true⟩, .h, []⟩,
  ⟨3, ⟨some 48, .move (.tmp 2), 69, none, true⟩, .q, []⟩,
  ⟨4, ⟨some 49, .move (.tmp 11), 3, none, true⟩, .q, []⟩,
  ⟨5, ⟨some 50, .indexAddr 69 (.tmp 48) (.tmp 49), 0, none, true⟩, .q, []⟩,
  ⟨6, ⟨some 51, .load 72 (.tmp 50), 72, none, true⟩, .h, []⟩,
  ⟨7, ⟨some 52, .call (⟨.value (.func 36), #[.tmp 45, .tmp 46, .tmp 47, .tmp 51], #[32, 57, 28, 72]⟩), 4, none, true⟩, .e, []⟩,
  ⟨8, ⟨some 53, .unOp .not 4 (.tmp 52), 4, none, true⟩, .q, []⟩,
  ⟨9, ⟨some 54, .move (.tmp 53), 4, none, true⟩, .q, []⟩,
  ⟨10, ⟨some 55, .move (.tmp 9), 32, some (some 54), false⟩, .q, []⟩,
  ⟨11, ⟨some 56, .move (.tmp 10), 57, some (some 54), false⟩, .q, []⟩,
  ⟨12, ⟨some 57, .call (⟨.value (.func 35), #[.tmp 55, .tmp 56], #[32, 57]⟩), 4, some (some 54), false⟩, .e, []⟩,
  ⟨13, ⟨some 58, .unOp .not 4 (.tmp 57), 4, some (some 54), false⟩, .q, []⟩,
  ⟨14, ⟨some 59, .pick (.tmp 54) (.const (.bool true)) (.tmp 58), 4, none, true⟩, .q, []⟩]
theorem dc7_17 : drawC ap (drawOf T.c7 17).toList [0, 1, 2, 3, 4, 5, 6, 7, 8, 9, 10, 11, 12, 13, 14] [[], [], [], [], [], [3, 4], [3, 4, 5], [0, 1, 2, 3, 4, 5, 6], [0, 1, 2, 3, 4, 5, 6, 7], [0, 1, 2, 3, 4, 5, 6, 7, 8], [0, 1, 2, 3, 4, 5, 6, 7, 8, 9], [0, 1, 2, 3, 4, 5, 6, 7, 8, 9], [0, 1, 2, 3, 4, 5, 6, 7, 8, 9, 10, 11], [0, 1, 2, 3, 4, 5, 6, 7, 8, 9, 10, 11, 12], [0, 1, 2, 3, 4, 5, 6, 7, 8, 9, 10, 11, 12, 13]] = some d7_17 := by kernel_rfl
def d8_19 : List DP := [⟨0, ⟨some 61, .move (.tmp 5), 34, none, true⟩, .q, []⟩,
  ⟨1, ⟨some 62, .binOp .eql 34 (.tmp 61) (.const (.int .i64 3)) 34, 4, none, true⟩, .q, []⟩,
  ⟨2, ⟨some 63, .move (.tmp 62), 4, none, true⟩, .q, []⟩,
  ⟨3, ⟨some 64, .move (.tmp 6), 34, some (some 63), true⟩, .q, []⟩,
  ⟨4, ⟨some 65, .binOp .eql 34 (.tmp 64) (.const (.int .i64 0)) 34, 4, some (some 63), true⟩, .q, []⟩,
  ⟨5, ⟨some 66, .pick (.tmp 63) (.tmp 65) (.const (.bool false)), 4, none, true⟩, .q, []⟩,
  ⟨6, ⟨some 67, .move (.tmp 66), 4, none, true⟩, .q, []⟩,
  ⟨7, ⟨some 68, .move (.tmp 7), 34, some (some 67), true⟩, .q, []⟩,
  ⟨8, ⟨some 69, .binOp .eql 34 (.tmp 68) (.const (.int .i64 0)) 34, 4, some (some 67), true⟩, .q, []⟩,
  ⟨9, ⟨some 70, .pick (.tmp 67) (.tmp 69) (.const (.bool false)), 4, none, true⟩, .q, []⟩,
  ⟨10, ⟨some 71, .move (.tmp 70), 4, none, true⟩, .q, []⟩,
  ⟨11, ⟨some 72, .move (.tmp 10), 34, some (some 71), true⟩, .q, []⟩,
  ⟨12, ⟨some 73, .binOp .eql 34 (.tmp 72) (.const (.int .i64 0)) 34, 4, some (some 71), true⟩, .q, []⟩,
  ⟨13, ⟨some 74, .pick (.tmp 71) (.tmp 73) (.const (.bool false)), 4, none, true⟩, .q, []⟩,
  ⟨14, ⟨some 75, .move (.tmp 74), 4, none, true⟩, .q, []⟩,
  ⟨15, ⟨some 76, .load 28 (.tmp 8), 28, some (some 75), true⟩, .h, [1]⟩,
  ⟨16, ⟨some 77, .call (⟨.value (.func 37), #[], #[]⟩), 28, some (some 75), true⟩, .e, []⟩,
  ⟨17, ⟨some 78, .call (⟨.value (.func 18), #[.tmp 76, .tmp 77], #[28, 28]⟩), 4, some (some 75), true⟩, .e, []⟩,
  ⟨18, ⟨some 79, .pick (.tmp 75) (.tmp 78) (.const (.bool false)), 4, none, true⟩, .q, []⟩,
  ⟨19, ⟨some 80, .move (.tmp 79), 4, none, true⟩, .q, []⟩,
  ⟨20, ⟨some 81, .move (.tmp 9), 30, some (some 80), true⟩, .q, []⟩,
  ⟨21, ⟨some 82, .load 38 (.tmp 2), 38, some (some 80), true⟩, .h, [2]⟩,
  ⟨22, ⟨some 83, .buildSlice 30 1 #[(0, .tmp 82)], 30, some (some 80), true⟩, .a, []⟩,
  ⟨23, ⟨some 84, .call (⟨.value (.func 19), #[.tmp 81, .tmp 83], #[30, 30]⟩), 4, some (some 80), true⟩, .e, []⟩,
  ⟨24, ⟨some 85, .pick (.tmp 80) (.tmp 84) (.const (.bool false)), 4, none, true⟩, .q, []⟩,
  ⟨25, ⟨some 86, .move (.tmp 85), 4, none, true⟩, .q, []⟩,
  ⟨26, ⟨some 87, .move (.tmp 12), 34, some (some 86), true⟩, .q, []⟩,
  ⟨27, ⟨some 88, .binOp .eql 34 (.tmp 87) (.const (.int .i64 0)) 34, 4, some (some 86), true⟩, .q, []⟩,
  ⟨28, ⟨some 89, .pick (.tmp 86) (.tmp 88) (.const (.bool false)), 4, none, true⟩, .q, []⟩,
  ⟨29, ⟨some 90, .move (.tmp 89), 4, none, true⟩, .q, []⟩,
  ⟨30, ⟨some 91, .load 3 (.tmp 13), 3, some (some 90), true⟩, .h, []⟩,
  ⟨31, ⟨some 92, .binOp .eql 3 (.tmp 91) (.const (.int .i64 1)) 3, 4, some (some 90), true⟩, .q, []⟩,
  ⟨32, ⟨some 93, .pick (.tmp 90) (.tmp 92) (.const (.bool false)), 4, none, true⟩, .q, []⟩,
  ⟨33, ⟨some 94, .move (.tmp 93), 4, none, true⟩, .q, []⟩,
  ⟨34, ⟨some 95, .move (.tmp 1), 32, some (some 94), true⟩, .q, []⟩,
  ⟨35, ⟨some 96, .call (⟨.value (.func 37), #[], #[]⟩), 28, some (some 94), true⟩, .e, []⟩,
  ⟨36, ⟨some 97, .call (⟨.value (.func 13), #[.tmp 95, .tmp 96], #[32, 28]⟩), 34, some (some 94), true⟩, .e, []⟩,
  ⟨37, ⟨some 98, .binOp .eql 34 (.tmp 97) (.const (.int .i64 4)) 34, 4, some (some 94), true⟩, .q, []⟩,
  ⟨38, ⟨some 99, .pick (.tmp 94) (.tmp 98) (.const (.bool false)), 4, none, true⟩, .q, []⟩,
  ⟨39, ⟨some 100, .move (.tmp 99), 4, none, true⟩, .q, []⟩,
  ⟨40, ⟨some 101, .move (.tmp 1), 32, some (some 100), true⟩, .q, []⟩,
  ⟨41, ⟨some 102, .build 28 #[], 28, some (some 100), true⟩, .q, []⟩,
  ⟨42, ⟨some 103, .call (⟨.value (.func 13), #[.tmp 101, .tmp 102], #[32, 28]⟩), 34, some (some 100), true⟩, .e, []⟩,
  ⟨43, ⟨some 104, .binOp .eql 34 (.tmp 103) (.const (.int .i64 1)) 34, 4, some (some 100), true⟩, .q, []⟩,
  ⟨44, ⟨some 105, .pick (.tmp 100) (.tmp 104) (.const (.bool false)), 4, none, true⟩, .q, []⟩,
  ⟨45, ⟨none, .store 4 (.tmp 0) (.tmp 105), 0, none, true⟩, .e, []⟩]
theorem dc8_19 : drawC ap (drawOf T.c8 19).toList [0, 1, 2, 3, 4, 5, 6, 7, 8, 9, 10, 11, 12, 13, 14, 15, 16, 17, 18, 19, 20, 21, 22, 23, 24, 25, 26, 27, 28, 29, 30, 31, 32, 33, 34, 35, 36, 37, 38, 39, 40, 41, 42, 43, 44, 45] [[], [0], [0, 1], [0, 1, 2], [0, 1, 2, 3], [0, 1, 2, 3, 4], [0, 1, 2, 3, 4, 5], [0, 1, 2, 3, 4, 5, 6], [0, 1, 2, 3, 4, 5, 6, 7], [0, 1, 2, 3, 4, 5, 6, 7, 8], [0, 1, 2, 3, 4, 5, 6, 7, 8, 9], [0, 1, 2, 3, 4, 5, 6, 7, 8, 9, 10], [0, 1, 2, 3, 4, 5, 6, 7, 8, 9, 10, 11], [0, 1, 2, 3, 4, 5, 6, 7, 8, 9, 10, 11, 12], [0, 1, 2, 3, 4, 5, 6, 7, 8, 9, 10, 11, 12, 13], [0, 1, 2, 3, 4, 5, 6, 7, 8, 9, 10, 11, 12, 13, 14], [0, 1, 2, 3, 4, 5, 6, 7, 8, 9, 10, 11, 12, 13, 14], [0, 1, 2, 3, 4, 5, 6, 7, 8, 9, 10, 11, 12, 13, 14, 15, 16], [0, 1, 2, 3, 4, 5, 6, 7, 8, 9, 10, 11, 12, 13, 14, 15, 16, 17], [0, 1, 2, 3, 4, 5, 6, 7, 8, 9, 10, 11, 12, 13, 14, 15, 16, 17, 18], [0, 1, 2, 3, 4, 5, 6, 7, 8, 9, 10, 11, 12, 13, 14, 15, 16, 17, 18, 19], [0, 1, 2, 3, 4, 5, 6, 7, 8, 9, 10, 11, 12, 13, 14, 15, 16, 17, 18, 19], [0, 1, 2, 3, 4, 5, 6, 7, 8, 9, 10, 11, 12, 13, 14, 15, 16, 17, 18, 19, 21], [0, 1, 2, 3, 4, 5, 6, 7, 8, 9, 10, 11, 12, 13, 14, 15, 16, 17, 18, 19, 20, 21, 22], [0, 1, 2, 3, 4, 5, 6, 7, 8, 9, 10, 11, 12, 13, 14, 15, 16, 17, 18, 19, 20, 21, 22, 23], [0, 1, 2, 3, 4, 5, 6, 7, 8, 9, 10, 11, 12, 13, 14, 15, 16, 17, 18, 19, 20, 21, 22, 23, 24], [0, 1, 2, 3, 4, 5, 6, 7, 8, 9, 10, 11, 12, 13, 14, 15, 16, 17, 18, 19, 20, 21, 22, 23, 24, 25], [0, 1, 2, 3, 4, 5, 6, 7, 8, 9, 10, 11, 12, 13, 14, 15, 16, 17, 18, 19, 20, 21, 22, 23, 24, 25, 26], [0, 1, 2, 3, 4, 5, 6, 7, 8, 9, 10, 11, 12, 13, 14, 15, 16, 17, 18, 19, 20, 21, 22, 23, 24, 25, 26, 27], [0, 1, 2, 3, 4, 5, 6, 7, 8, 9, 10, 11, 12, 13, 14, 15, 16, 17, 18, 19, 20, 21, 22, 23, 24, 25, 26, 27, 28], [0, 1, 2, 3, 4, 5, 6, 7, 8, 9, 10, 11, 12, 13, 14, 15, 16, 17, 18, 19, 20, 21, 22, 23, 24, 25, 26, 27, 28, 29], [0, 1, 2, 3, 4, 5, 6, 7, 8, 9, 10, 11, 12, 13, 14, 15, 16, 17, 18, 19, 20, 21, 22, 23, 24, 25, 26, 27, 28, 29, 30], [0, 1, 2, 3, 4, 5, 6, 7, 8, 9, 10, 11, 12, 13, 14, 15, 16, 17, 18, 19, 20, 21, 22, 23, 24, 25, 26, 27, 28, 29, 30, 31], [0, 1, 2, 3, 4, 5, 6, 7, 8, 9, 10, 11, 12, 13, 14, 15, 16, 17, 18, 19, 20, 21, 22, 23, 24, 25, 26, 27, 28, 29, 30, 31, 32], [0, 1, 2, 3, 4, 5, 6, 7, 8, 9, 10, 11, 12, 13, 14, 15, 16, 17, 18, 19, 20, 21, 22, 23, 24, 25, 26, 27, 28, 29, 30, 31, 32, 33], [0, 1, 2, 3, 4, 5, 6, 7, 8, 9, 10, 11, 12, 13, 14, 15, 16, 17, 18, 19, 20, 21, 22, 23, 24, 25, 26, 27, 28, 29, 30, 31, 32, 33], [0, 1, 2, 3, 4, 5, 6, 7, 8, 9, 10, 11, 12, 13, 14, 15, 16, 17, 18, 19, 20, 21, 22, 23, 24, 25, 26, 27, 28, 29, 30, 31, 32, 33, 34, 35], [0, 1, 2, 3, 4, 5, 6, 7, 8, 9, 10, 11, 12, 13, 14, 15, 16, 17, 18, 19, 20, 21, 22, 23, 24, 25, 26, 27, 28, 29, 30, 31, 32, 33, 34, 35, 36], [0, 1, 2, 3, 4, 5, 6, 7, 8, 9, 10, 11, 12, 13, 14, 15, 16, 17, 18, 19, 20, 21, 22, 23, 24, 25, 26, 27, 28, 29, 30, 31, 32, 33, 34, 35, 36, 37], [0, 1, 2, 3, 4, 5, 6, 7, 8, 9, 10, 11, 12, 13, 14, 15, 16, 17, 18, 19, 20, 21, 22, 23, 24, 25, 26, 27, 28, 29, 30, 31, 32, 33, 34, 35, 36, 37, 38], [0, 1, 2, 3, 4, 5, 6, 7, 8, 9, 10, 11, 12, 13, 14, 15, 16, 17, 18, 19, 20, 21, 22, 23, 24, 25, 26, 27, 28, 29, 30, 31, 32, 33, 34, 35, 36, 37, 38, 39], [0, 1, 2, 3, 4, 5, 6, 7, 8, 9, 10, 11, 12, 13, 14, 15, 16, 17, 18, 19, 20, 21, 22, 23, 24, 25, 26, 27, 28, 29, 30, 31, 32, 33, 34, 35, 36, 37, 38, 39], [0, 1, 2, 3, 4, 5, 6, 7, 8, 9, 10, 11, 12, 13, 14, 15, 16, 17, 18, 19, 20, 21, 22, 23, 24, 25, 26, 27, 28, 29, 30, 31, 32, 33, 34, 35, 36, 37, 38, 39, 40, 41], [0, 1, 2, 3, 4, 5, 6, 7, 8, 9, 10, 11, 12, 13, 14, 15, 16, 17, 18, 19, 20, 21, 22, 23, 24, 25, 26, 27, 28, 29, 30, 31, 32, 33, 34, 35, 36, 37, 38, 39, 40, 41, 42], [0, 1, 2, 3, 4, 5, 6, 7, 8, 9, 10, 11, 12, 13, 14, 15, 16, 17, 18, 19, 20, 21, 22, 23, 24, 25, 26, 27, 28, 29, 30, 31, 32, 33, 34, 35, 36, 37, 38, 39, 40, 41, 42, 43], [0, 1, 2, 3, 4, 5, 6, 7, 8, 9, 10, 11, 12, 13, 14, 15, 16, 17, 18, 19, 20, 21, 22, 23, 24, 25, 26, 27, 28, 29, 30, 31, 32, 33, 34, 35, 36, 37, 38, 39, 40, 41, 42, 43, 44]] = some d8_19 := by kernel_rfl
def d15_3 : List DP := [⟨0, ⟨some 22, .build 28 #[], 28, none, true⟩, .q, []⟩,
  ⟨1, ⟨some 23, .load 34 (.tmp 6), 34, none, true⟩, .h, [1, 2]⟩,
  ⟨2, ⟨none, .store 28 (.tmp 2) (.tmp 22), 0, none, true⟩, .e, []⟩,
  ⟨3, ⟨none, .store 30 (.tmp 3) (.const (.slice none 0 0)), 0, none, true⟩, .e, []⟩,
  ⟨4, ⟨none, .store 34 (.tmp 4) (.tmp 23), 0, none, true⟩, .e, []⟩]
theorem dc15_3 : drawC ap (drawOf T.c15 3).toList [0, 1, 2, 3, 4] [[], [], [0], [0, 2], [0, 1, 2, 3]] = some d15_3 := by kernel_rfl
def d15_25 : List DP := [⟨0, ⟨some 70, .load 28 (.tmp 9), 28, none, true⟩, .h, []⟩,
  ⟨1, ⟨some 71, .load 30 (.tmp 10), 30, none, true⟩, .h, [1]⟩,
  ⟨2, ⟨none, .store 28 (.tmp 2) (.tmp 70), 0, none, true⟩, .e, []⟩,
  ⟨3, ⟨none, .store 30 (.tmp 3) (.tmp 71), 0, none, true⟩, .e, []⟩,
  ⟨4, ⟨none, .store 34 (.tmp 4) (.const (.int .i64 0)), 0, none, true⟩, .e, []⟩]
theorem dc15_25 : drawC ap (drawOf T.c15 25).toList [0, 1, 2, 3, 4] [[], [], [0], [0, 1, 2], [0, 1, 2, 3]] = some d15_25 := by kernel_rfl
def d18_6 : List DP := [⟨0, ⟨some 20, .fieldAddr 28 (.tmp 2) 0, 0, none, true⟩, .q, []⟩,
  ⟨1, ⟨some 21, .load 26 (.tmp 20), 26, none, true⟩, .h, []⟩,
  ⟨2, ⟨some 22, .move (.tmp 5), 3, none, true⟩, .q, []⟩,
  ⟨3, ⟨some 23, .indexAddr 26 (.tmp 21) (.tmp 22), 0, none, true⟩, .q, []⟩,
  ⟨4, ⟨some 24, .load 78 (.tmp 23), 78, none, true⟩, .h, []⟩,
  ⟨5, ⟨some 25, .fieldAddr 28 (.tmp 3) 0, 0, none, true⟩, .q, []⟩,
  ⟨6, ⟨some 26, .load 26 (.tmp 25), 26, none, true⟩, .h, []⟩,
  ⟨7, ⟨some 27, .move (.tmp 5), 3, none, true⟩, .q, []⟩,
  ⟨8, ⟨some 28, .indexAddr 26 (.tmp 26) (.tmp 27), 0, none, true⟩, .q, []⟩,
  ⟨9, ⟨some 29, .load 78 (.tmp 28), 78, none, true⟩, .h, []⟩,
  ⟨10, ⟨some 30, .binOp .neq 78 (.tmp 24) (.tmp 29) 78, 4, none, true⟩, .q, []⟩]
theorem dc18_6 : drawC ap (drawOf T.c18 6).toList [0, 1, 2, 3, 4, 5, 6, 7, 8, 9, 10] [[], [0], [], [0, 1, 2], [0, 1, 2, 3], [], [5], [], [5, 6, 7], [5, 6, 7, 8], [0, 1, 2, 3, 4, 5, 6, 7, 8, 9]] = some d18_6 := by kernel_rfl
def d19_6 : List DP := [⟨0, ⟨some 17, .move (.tmp 0), 30, none, true⟩, .q, []⟩,
  ⟨1, ⟨some 18, .move (.tmp 5), 3, none, true⟩, .q, []⟩,
  ⟨2, ⟨some 19, .indexAddr 30 (.tmp 17) (.tmp 18), 0, none, true⟩, .q, []⟩,
  ⟨3, ⟨some 20, .load 38 (.tmp 19), 38, none, true⟩, .h, []⟩,
  ⟨4, ⟨some 21, .move (.tmp 1), 30, none, true⟩, .q, []⟩,
  ⟨5, ⟨some 22, .move (.tmp 5), 3, none, true⟩, .q, []⟩,
  ⟨6, ⟨some 23, .indexAddr 30 (.tmp 21) (.tmp 22), 0, none, true⟩, .q, []⟩,
  ⟨7, ⟨some 24, .load 38 (.tmp 23), 38, none, true⟩, .h, []⟩,
  ⟨8, ⟨some 25, .binOp .neq 38 (.tmp 20) (.tmp 24) 38, 4, none, true⟩, .q, []⟩]
theorem dc19_6 : drawC ap (drawOf T.c19 6).toList [0, 1, 2, 3, 4, 5, 6, 7, 8] [[], [], [0, 1], [0, 1, 2], [], [], [4, 5], [4, 5, 6], [0, 1, 2, 3, 4, 5, 6, 7]] = some d19_6 := by kernel_rfl
def d27_8 : List DP := [⟨0, ⟨some 28, .move (.tmp 4), 41, none, true⟩, .q, []⟩,
  ⟨1, ⟨some 29, .fieldAddr 78 (.tmp 6) 0, 0, none, true⟩, .q, []⟩,
  ⟨2, ⟨some 30, .load 3 (.tmp 29), 3, none, true⟩, .h, []⟩,
  ⟨4, ⟨some 32, .fieldAddr 78 (.tmp 6) 1, 0, none, true⟩, .q, []⟩,
  ⟨5, ⟨some 33, .load 2 (.tmp 32), 2, none, true⟩, .h, [1]⟩,
  ⟨7, ⟨some 35, .fieldAddr 78 (.tmp 6) 2, 0, none, true⟩, .q, []⟩,
  ⟨8, ⟨some 36, .load 2 (.tmp 35), 2, none, true⟩, .h, [1, 2]⟩,
  ⟨10, ⟨some 38, .fieldAddr 78 (.tmp 6) 3, 0, none, true⟩, .q, []⟩,
  ⟨11, ⟨some 39, .load 2 (.tmp 38), 2, none, true⟩, .h, [1, 2, 3]⟩,
  ⟨3, ⟨some 31, .call (⟨.value (.func 50), #[.tmp 28, .tmp 30], #[41, 2]⟩), 41, none, true⟩, .e, []⟩,
  ⟨6, ⟨some 34, .call (⟨.value (.func 50), #[.tmp 31, .tmp 33], #[41, 2]⟩), 41, none, true⟩, .e, []⟩,
  ⟨9, ⟨some 37, .call (⟨.value (.func 50), #[.tmp 34, .tmp 36], #[41, 2]⟩), 41, none, true⟩, .e, []⟩,
  ⟨12, ⟨some 40, .call (⟨.value (.func 50), #[.tmp 37, .tmp 39], #[41, 2]⟩), 41, none, true⟩, .e, []⟩,
  ⟨13, ⟨some 4, .assign (.tmp 40), 41, none, true⟩, .q, []⟩]
theorem dc27_8 : drawC ap (drawOf T.c27 8).toList [0, 1, 2, 4, 5, 7, 8, 10, 11, 3, 6, 9, 12, 13] [[], [], [1], [0, 1, 2], [], [4], [0, 1, 2, 3, 4, 5], [], [7], [0, 1, 2, 3, 4, 5, 6, 7, 8], [], [10], [0, 1, 2, 3, 4, 5, 6, 7, 8, 9, 10, 11], [0, 1, 2, 3, 4, 5, 6, 7, 8, 9, 10, 11, 12]] = some d27_8 := by kernel_rfl
def d30_8 : List DP := [⟨0, ⟨some 23, .move (.tmp 4), 41, none, true⟩, .q, []⟩,
  ⟨1, ⟨some 24, .load 38 (.tmp 1), 38, none, true⟩, .h, []⟩,
  ⟨2, ⟨some 25, .move (.tmp 5), 9, none, true⟩, .q, []⟩,
  ⟨3, ⟨some 26, .move (.tmp 6), 3, none, true⟩, .q, []⟩,
  ⟨4, ⟨some 27, .index 9 (.tmp 25) (.tmp 26), 5, none, true⟩, .q, []⟩,
  ⟨5, ⟨some 28, .call (⟨.value (.func 55), #[.tmp 24, .tmp 27], #[38, 5]⟩), 2, none, true⟩, .e, []⟩,
  ⟨6, ⟨some 29, .call (⟨.value (.func 50), #[.tmp 23, .tmp 28], #[41, 2]⟩), 41, none, true⟩, .e, []⟩,
  ⟨7, ⟨some 4, .assign (.tmp 29), 41, none, true⟩, .q, []⟩]
theorem dc30_8 : drawC ap (drawOf T.c30 8).toList [0, 1, 2, 3, 4, 5, 6, 7] [[], [], [], [], [2, 3], [1, 2, 3, 4], [0, 1, 2, 3, 4, 5], [0, 1, 2, 3, 4, 5, 6]] = some d30_8 := by kernel_rfl
def d31_1 : List DP := [⟨0, ⟨some 9, .move (.tmp 0), 24, none, true⟩, .q, []⟩,
  ⟨3, ⟨some 12, .move (.tmp 0), 24, none, true⟩, .q, []⟩,
  ⟨6, ⟨some 15, .move (.tmp 0), 24, none, true⟩, .q, []⟩,
  ⟨7, ⟨some 16, .fieldAddr 28 (.tmp 3) 0, 0, none, true⟩, .q, []⟩,
  ⟨8, ⟨some 17, .load 26 (.tmp 16), 26, none, true⟩, .h, [1, 2]⟩,
  ⟨9, ⟨some 18, .call (⟨.builtin .len, #[.tmp 17], #[26]⟩), 3, none, true⟩, .q, []⟩,
  ⟨1, ⟨some 10, .call (⟨.value (.func 29), #[.tmp 9, .const (.int .i64 4)], #[24, 3]⟩), 3, none, true⟩, .e, []⟩,
  ⟨2, ⟨some 11, .binOp .add 3 (.const (.int .i64 1)) (.tmp 10) 3, 3, none, true⟩, .q, []⟩,
  ⟨4, ⟨some 13, .call (⟨.value (.func 29), #[.tmp 12, .const (.int .i64 7)], #[24, 3]⟩), 3, none, true⟩, .e, []⟩,
  ⟨5, ⟨some 14, .binOp .add 3 (.const (.int .i64 1)) (.tmp 13) 3, 3, none, true⟩, .q, []⟩,
  ⟨10, ⟨some 19, .call (⟨.value (.func 29), #[.tmp 15, .tmp 18], #[24, 3]⟩), 3, none, true⟩, .e, []⟩,
  ⟨11, ⟨some 5, .assign (.tmp 11), 3, none, true⟩, .q, []⟩,
  ⟨12, ⟨some 6, .assign (.tmp 14), 3, none, true⟩, .q, []⟩,
  ⟨13, ⟨some 7, .assign (.tmp 19), 3, none, true⟩, .q, []⟩]
theorem dc31_1 : drawC ap (drawOf T.c31 1).toList [0, 3, 6, 7, 8, 9, 1, 2, 4, 5, 10, 11, 12, 13] [[], [0], [0, 1], [], [0, 1, 3], [0, 1, 3, 4], [], [], [7], [7, 8], [0, 1, 3, 4, 6, 7, 8, 9], [0, 1, 2, 3, 4, 6, 7, 8, 9, 10], [0, 1, 2, 3, 4, 5, 6, 7, 8, 9, 10, 11], [0, 1, 2, 3, 4, 5, 6, 7, 8, 9, 10, 11, 12]] = some d31_1 := by kernel_rfl
def d31_34 : List DP := [⟨0, ⟨some 104, .move (.tmp 8), 3, none, true⟩, .q, []⟩,
  ⟨1, ⟨some 105, .move (.tmp 6), 3, none, true⟩, .q, []⟩,
  ⟨2, ⟨some 106, .move (.tmp 0), 24, none, true⟩, .q, []⟩,
  ⟨5, ⟨some 109, .move (.tmp 0), 24, none, true⟩, .q, []⟩,
  ⟨8, ⟨some 112, .fieldAddr 28 (.tmp 3) 0, 0, none, true⟩, .q, []⟩,
  ⟨9, ⟨some 113, .load 26 (.tmp 112), 26, none, true⟩, .h, [1, 2]⟩,
  ⟨10, ⟨some 114, .move (.tmp 7), 3, none, true⟩, .q, []⟩,
  ⟨11, ⟨some 115, .indexAddr 26 (.tmp 113) (.tmp 114), 0, none, true⟩, .q, []⟩,
  ⟨12, ⟨some 116, .fieldAddr 78 (.tmp 115) 1, 0, none, true⟩, .q, []⟩,
  ⟨13, ⟨some 117, .load 2 (.tmp 116), 2, none, true⟩, .h, [1, 2]⟩,
  ⟨3, ⟨some 107, .call (⟨.value (.func 29), #[.tmp 106, .const (.int .i64 60)], #[24, 3]⟩), 3, none, true⟩, .e, []⟩,
  ⟨4, ⟨some 108, .binOp .add 2 (.const (.int .i64 1)) (.tmp 107) 2, 2, none, true⟩, .q, []⟩,
  ⟨6, ⟨some 110, .call (⟨.value (.func 29), #[.tmp 109, .const (.int .i64 20)], #[24, 3]⟩), 3, none, true⟩, .e, []⟩,
  ⟨7, ⟨some 111, .binOp .add 2 (.const (.int .i64 1)) (.tmp 110) 2, 2, none, true⟩, .q, []⟩,
  ⟨14, ⟨some 118, .build 38 #[(0, .tmp 104), (2, .tmp 105), (5, .tmp 108), (6, .tmp 111), (7, .tmp 117)], 38, none, true⟩, .q, []⟩,
  ⟨15, ⟨none, .store 38 (.tmp 4) (.tmp 118), 0, none, true⟩, .e, []⟩]
theorem dc31_34 : drawC ap (drawOf T.c31 34).toList [0, 1, 2, 5, 8, 9, 10, 11, 12, 13, 3, 4, 6, 7, 14, 15] [[], [], [], [2], [2, 3], [], [2, 3, 5], [2, 3, 5, 6], [], [8], [], [8, 9, 10], [8, 9, 10, 11], [8, 9, 10, 11, 12], [0, 1, 2, 3, 4, 5, 6, 7, 8, 9, 10, 11, 12, 13], [0, 1, 2, 3, 4, 5, 6, 7, 8, 9, 10, 11, 12, 13, 14]] = some d31_34 := by kernel_rfl
def d32_5 : List DP := [⟨0, ⟨some 14, .move (.tmp 0), 32, none, true⟩, .q, []⟩,
  ⟨1, ⟨some 15, .nilCheck (.tmp 14), 0, none, true⟩, .q, []⟩,
  ⟨2, ⟨some 16, .fieldAddr 81 (.tmp 15) 0, 0, none, true⟩, .q, []⟩,
  ⟨3, ⟨some 17, .load 41 (.tmp 16), 41, none, true⟩, .h, []⟩,
  ⟨4, ⟨some 18, .call (⟨.builtin .len, #[.tmp 17], #[41]⟩), 3, none, true⟩, .q, []⟩,
  ⟨5, ⟨some 19, .move (.tmp 1), 41, none, true⟩, .q, []⟩,
  ⟨6, ⟨some 20, .call (⟨.builtin .len, #[.tmp 19], #[41]⟩), 3, none, true⟩, .q, []⟩,
  ⟨7, ⟨some 21, .binOp .add 3 (.tmp 18) (.tmp 20) 3, 3, none, true⟩, .q, []⟩,
  ⟨8, ⟨some 22, .move (.tmp 0), 32, none, true⟩, .q, []⟩,
  ⟨9, ⟨some 23, .nilCheck (.tmp 22), 0, none, true⟩, .q, []⟩,
  ⟨10, ⟨some 24, .fieldAddr 81 (.tmp 23) 1, 0, none, true⟩, .q, []⟩,
  ⟨11, ⟨some 25, .load 3 (.tmp 24), 3, none, true⟩, .h, []⟩,
  ⟨12, ⟨some 26, .binOp .gtr 3 (.tmp 21) (.tmp 25) 3, 4, none, true⟩, .q, []⟩,
  ⟨13, ⟨some 13, .assign (.tmp 26), 4, none, true⟩, .q, []⟩]
theorem dc32_5 : drawC ap (drawOf T.c32 5).toList [0, 1, 2, 3, 4, 5, 6, 7, 8, 9, 10, 11, 12, 13] [[], [0], [0, 1], [0, 1, 2], [0, 1, 2, 3], [], [5], [0, 1, 2, 3, 4, 5, 6], [], [8], [8, 9], [8, 9, 10], [0, 1, 2, 3, 4, 5, 6, 7, 8, 9, 10, 11], [0, 1, 2, 3, 4, 5, 6, 7, 8, 9, 10, 11, 12]] = some d32_5 := by kernel_rfl
def d32_8 : List DP := [⟨0, ⟨some 30, .move (.tmp 0), 32, none, true⟩, .q, []⟩,
  ⟨1, ⟨some 31, .move (.tmp 0), 32, none, true⟩, .q, []⟩,
  ⟨2, ⟨some 32, .nilCheck (.tmp 31), 0, none, true⟩, .q, []⟩,
  ⟨3, ⟨some 33, .fieldAddr 81 (.tmp 32) 0, 0, none, true⟩, .q, []⟩,
  ⟨4, ⟨some 34, .load 41 (.tmp 33), 41, none, true⟩, .h, []⟩,
  ⟨5, ⟨some 35, .move (.tmp 1), 41, none, true⟩, .q, []⟩,
  ⟨6, ⟨some 36, .move (.tmp 0), 32, none, true⟩, .q, []⟩,
  ⟨7, ⟨some 37, .nilCheck (.tmp 36), 0, none, true⟩, .q, []⟩,
  ⟨8, ⟨some 38, .fieldAddr 81 (.tmp 37) 5, 0, none, true⟩, .q, []⟩,
  ⟨9, ⟨some 39, .load 3 (.tmp 38), 3, none, true⟩, .h, []⟩,
  ⟨10, ⟨some 40, .call (⟨.builtin .max, #[.tmp 39, .const (.int .i64 0)], #[3, 3]⟩), 3, none, true⟩, .q, []⟩,
  ⟨11, ⟨some 41, .move (.tmp 1), 41, none, true⟩, .q, []⟩,
  ⟨12, ⟨some 42, .call (⟨.builtin .len, #[.tmp 41], #[41]⟩), 3, none, true⟩, .q, []⟩,
  ⟨13, ⟨some 43, .call (⟨.builtin .min, #[.tmp 40, .tmp 42], #[3, 3]⟩), 3, none, true⟩, .q, []⟩,
  ⟨14, ⟨some 44, .slice 41 (.tmp 35) none (some (.tmp 43)) none, 41, none, true⟩, .h, []⟩,
  ⟨15, ⟨some 45, .call (⟨.builtin .append, #[.tmp 34, .tmp 44], #[41, 41]⟩), 41, none, true⟩, .e, []⟩,
  ⟨16, ⟨some 46, .nilCheck (.tmp 30), 0, none, true⟩, .q, []⟩,
  ⟨17, ⟨some 47, .fieldAddr 81 (.tmp 46) 0, 0, none, true⟩, .q, []⟩,
  ⟨18, ⟨none, .store 41 (.tmp 47) (.tmp 45), 0, none, true⟩, .e, []⟩]
theorem dc32_8 : drawC ap (drawOf T.c32 8).toList [0, 1, 2, 3, 4, 5, 6, 7, 8, 9, 10, 11, 12, 13, 14, 15, 16, 17, 18] [[], [], [1], [1, 2], [1, 2, 3], [], [], [6], [6, 7], [6, 7, 8], [6, 7, 8, 9], [], [11], [6, 7, 8, 9, 10, 11, 12], [5, 6, 7, 8, 9, 10, 11, 12, 13], [1, 2, 3, 4, 5, 6, 7, 8, 9, 10, 11, 12, 13, 14], [0, 1, 2, 3, 4, 5, 6, 7, 8, 9, 10, 11, 12, 13, 14, 15], [0, 1, 2, 3, 4, 5, 6, 7, 8, 9, 10, 11, 12, 13, 14, 15, 16], [0, 1, 2, 3, 4, 5, 6, 7, 8, 9, 10, 11, 12, 13, 14, 15, 16, 17]] = some d32_8 := by kernel_rfl
def d33_3 : List DP := [⟨0, ⟨some 9, .move (.tmp 1), 41, none, true⟩, .q, []⟩,
  ⟨1, ⟨some 10, .call (⟨.builtin .len, #[.tmp 9], #[41]⟩), 3, none, true⟩, .q, []⟩,
  ⟨2, ⟨some 11, .move (.tmp 0), 57, none, true⟩, .q, []⟩,
  ⟨3, ⟨some 12, .nilCheck (.tmp 11), 0, none, true⟩, .q, []⟩,
  ⟨4, ⟨some 13, .fieldAddr 94 (.tmp 12) 1, 0, none, true⟩, .q, []⟩,
  ⟨5, ⟨some 14, .load 3 (.tmp 13), 3, none, true⟩, .h, []⟩,
  ⟨6, ⟨some 15, .move (.tmp 0), 57, none, true⟩, .q, []⟩,
  ⟨7, ⟨some 16, .nilCheck (.tmp 15), 0, none, true⟩, .q, []⟩,
  ⟨8, ⟨some 17, .fieldAddr 94 (.tmp 16) 0, 0, none, true⟩, .q, []⟩,
  ⟨9, ⟨some 18, .load 41 (.tmp 17), 41, none, true⟩, .h, []⟩,
  ⟨10, ⟨some 19, .call (⟨.builtin .len, #[.tmp 18], #[41]⟩), 3, none, true⟩, .q, []⟩,
  ⟨11, ⟨some 20, .binOp .sub 3 (.tmp 14) (.tmp 19) 3, 3, none, true⟩, .q, []⟩,
  ⟨12, ⟨some 21, .binOp .gtr 3 (.tmp 10) (.tmp 20) 3, 4, none, true⟩, .q, []⟩]
theorem dc33_3 : drawC ap (drawOf T.c33 3).toList [0, 1, 2, 3, 4, 5, 6, 7, 8, 9, 10, 11, 12] [[], [0], [], [2], [2, 3], [2, 3, 4], [], [6], [6, 7], [6, 7, 8], [6, 7, 8, 9], [2, 3, 4, 5, 6, 7, 8, 9, 10], [0, 1, 2, 3, 4, 5, 6, 7, 8, 9, 10, 11]] = some d33_3 := by kernel_rfl
def d33_6 : List DP := [⟨1, ⟨some 25, .buildSlice 41 0 #[], 41, none, true⟩, .a, []⟩,
  ⟨0, ⟨some 24, .move (.tmp 0), 57, none, true⟩, .q, []⟩,
  ⟨2, ⟨some 26, .move (.tmp 0), 57, none, true⟩, .q, []⟩,
  ⟨3, ⟨some 27, .nilCheck (.tmp 26), 0, none, true⟩, .q, []⟩,
  ⟨4, ⟨some 28, .fieldAddr 94 (.tmp 27) 0, 0, none, true⟩, .q, []⟩,
  ⟨5, ⟨some 29, .load 41 (.tmp 28), 41, none, true⟩, .h, []⟩,
  ⟨7, ⟨some 31, .move (.tmp 1), 41, none, true⟩, .q, []⟩,
  ⟨8, ⟨some 32, .move (.tmp 0), 57, none, true⟩, .q, []⟩,
  ⟨9, ⟨some 33, .nilCheck (.tmp 32), 0, none, true⟩, .q, []⟩,
  ⟨10, ⟨some 34, .fieldAddr 94 (.tmp 33) 4, 0, none, true⟩, .q, []⟩,
  ⟨11, ⟨some 35, .load 3 (.tmp 34), 3, none, true⟩, .h, [1]⟩,
  ⟨12, ⟨some 36, .call (⟨.builtin .max, #[.tmp 35, .const (.int .i64 0)], #[3, 3]⟩), 3, none, true⟩, .q, []⟩,
  ⟨13, ⟨some 37, .move (.tmp 1), 41, none, true⟩, .q, []⟩,
  ⟨14, ⟨some 38, .call (⟨.builtin .len, #[.tmp 37], #[41]⟩), 3, none, true⟩, .q, []⟩,
  ⟨15, ⟨some 39, .call (⟨.builtin .min, #[.tmp 36, .tmp 38], #[3, 3]⟩), 3, none, true⟩, .q, []⟩,
  ⟨16, ⟨some 40, .slice 41 (.tmp 31) none (some (.tmp 39)) none, 41, none, true⟩, .h, [1]⟩,
  ⟨6, ⟨some 30, .call (⟨.builtin .append, #[.tmp 25, .tmp 29], #[41, 41]⟩), 41, none, true⟩, .e, []⟩,
  ⟨17, ⟨some 41, .call (⟨.builtin .append, #[.tmp 30, .tmp 40], #[41, 41]⟩), 41, none, true⟩, .e, []⟩,
  ⟨18, ⟨some 42, .nilCheck (.tmp 24), 0, none, true⟩, .q, []⟩,
  ⟨19, ⟨some 43, .fieldAddr 94 (.tmp 42) 0, 0, none, true⟩, .q, []⟩,
  ⟨20, ⟨none, .store 41 (.tmp 43) (.tmp 41), 0, none, true⟩, .e, []⟩]
theorem dc33_6 : drawC ap (drawOf T.c33 6).toList [1, 0, 2, 3, 4, 5, 7, 8, 9, 10, 11, 12, 13, 14, 15, 16, 6, 17, 18, 19, 20] [[], [], [], [2], [2, 3], [2, 3, 4], [1, 2, 3, 4, 5], [], [], [8], [8, 9], [8, 9, 10], [8, 9, 10, 11], [], [13], [8, 9, 10, 11, 12, 13, 14], [7, 8, 9, 10, 11, 12, 13, 14, 15], [1, 2, 3, 4, 5, 6, 7, 8, 9, 10, 11, 12, 13, 14, 15, 16], [0, 1, 2, 3, 4, 5, 6, 7, 8, 9, 10, 11, 12, 13, 14, 15, 16, 17], [0, 1, 2, 3, 4, 5, 6, 7, 8, 9, 10, 11, 12, 13, 14, 15, 16, 17, 18], [0, 1, 2, 3, 4, 5, 6, 7, 8, 9, 10, 11, 12, 13, 14, 15, 16, 17, 18, 19]] = some d33_6 := by kernel_rfl
def d35_2 : List DP := [⟨0, ⟨some 10, .move (.tmp 5), 32, none, true⟩, .q, []⟩,
  ⟨1, ⟨some 11, .binOp .eql 32 (.tmp 10) (.const (.pointer none)) 32, 4, none, true⟩, .q, []⟩,
  ⟨2, ⟨some 12, .move (.tmp 11), 4, none, true⟩, .q, []⟩,
  ⟨3, ⟨some 13, .move (.tmp 0), 32, some (some 12), false⟩, .q, []⟩,
  ⟨5, ⟨some 15, .move (.tmp 1), 57, some (some 12), false⟩, .q, []⟩,
  ⟨6, ⟨some 16, .nilCheck (.tmp 15), 0, some (some 12), false⟩, .q, []⟩,
  ⟨7, ⟨some 17, .fieldAddr 94 (.tmp 16) 5, 0, some (some 12), false⟩, .q, []⟩,
  ⟨8, ⟨some 18, .load 4 (.tmp 17), 4, some (some 12), false⟩, .h, [1]⟩,
  ⟨4, ⟨some 14, .call (⟨.value (.func 23), #[.tmp 13], #[32]⟩), 4, some (some 12), false⟩, .e, []⟩,
  ⟨9, ⟨some 19, .binOp .neq 4 (.tmp 14) (.tmp 18) 4, 4, some (some 12), false⟩, .q, []⟩,
  ⟨10, ⟨some 20, .pick (.tmp 12) (.const (.bool true)) (.tmp 19), 4, none, true⟩, .q, []⟩]
theorem dc35_2 : drawC ap (drawOf T.c35 2).toList [0, 1, 2, 3, 5, 6, 7, 8, 4, 9, 10] [[], [0], [0, 1], [0, 1, 2], [0, 1, 2, 3], [0, 1, 2], [0, 1, 2, 5], [0, 1, 2, 5, 6], [0, 1, 2, 5, 6, 7], [0, 1, 2, 3, 4, 5, 6, 7, 8], [0, 1, 2, 3, 4, 5, 6, 7, 8, 9]] = some d35_2 := by kernel_rfl
def d35_6 : List DP := [⟨0, ⟨some 28, .move (.tmp 7), 34, none, true⟩, .q, []⟩,
  ⟨1, ⟨some 29, .binOp .eql 34 (.tmp 28) (.const (.int .i64 0)) 34, 4, none, true⟩, .q, []⟩,
  ⟨2, ⟨some 30, .move (.tmp 29), 4, none, true⟩, .q, []⟩,
  ⟨3, ⟨some 31, .move (.tmp 6), 41, some (some 30), true⟩, .q, []⟩,
  ⟨4, ⟨some 32, .convert 41 9 (.tmp 31), 9, some (some 30), true⟩, .h, []⟩,
  ⟨5, ⟨some 33, .move (.tmp 1), 57, some (some 30), true⟩, .q, []⟩,
  ⟨6, ⟨some 34, .nilCheck (.tmp 33), 0, some (some 30), true⟩, .q, []⟩,
  ⟨7, ⟨some 35, .fieldAddr 94 (.tmp 34) 0, 0, some (some 30), true⟩, .q, []⟩,
  ⟨8, ⟨some 36, .load 41 (.tmp 35), 41, some (some 30), true⟩, .h, []⟩,
  ⟨9, ⟨some 37, .convert 41 9 (.tmp 36), 9, some (some 30), true⟩, .h, []⟩,
  ⟨10, ⟨some 38, .binOp .eql 9 (.tmp 32) (.tmp 37) 9, 4, some (some 30), true⟩, .q, []⟩,
  ⟨11, ⟨some 39, .pick (.tmp 30) (.tmp 38) (.const (.bool false)), 4, none, true⟩, .q, []⟩,
  ⟨12, ⟨some 4, .assign (.tmp 39), 4, none, true⟩, .q, []⟩]
theorem dc35_6 : drawC ap (drawOf T.c35 6).toList [0, 1, 2, 3, 4, 5, 6, 7, 8, 9, 10, 11, 12] [[], [0], [0, 1], [0, 1, 2], [0, 1, 2, 3], [0, 1, 2], [0, 1, 2, 5], [0, 1, 2, 5, 6], [0, 1, 2, 5, 6, 7], [0, 1, 2, 5, 6, 7, 8], [0, 1, 2, 3, 4, 5, 6, 7, 8, 9], [0, 1, 2, 3, 4, 5, 6, 7, 8, 9, 10], [0, 1, 2, 3, 4, 5, 6, 7, 8, 9, 10, 11]] = some d35_6 := by kernel_rfl
def d36_15 : List DP := [⟨0, ⟨some 68, .move (.tmp 0), 32, none, true⟩, .q, []⟩,
  ⟨1, ⟨some 69, .fieldAddr 72 (.tmp 7) 2, 0, none, true⟩, .q, []⟩,
  ⟨2, ⟨some 70, .load 41 (.tmp 69), 41, none, true⟩, .h, []⟩,
  ⟨4, ⟨some 72, .move (.tmp 1), 57, none, true⟩, .q, []⟩,
  ⟨5, ⟨some 73, .fieldAddr 72 (.tmp 7) 2, 0, none, true⟩, .q, []⟩,
  ⟨6, ⟨some 74, .load 41 (.tmp 73), 41, none, true⟩, .h, [1]⟩,
  ⟨3, ⟨some 71, .call (⟨.value (.func 32), #[.tmp 68, .tmp 70], #[32, 41]⟩), 34, none, true⟩, .e, []⟩,
  ⟨7, ⟨some 75, .call (⟨.value (.func 33), #[.tmp 72, .tmp 74], #[57, 41]⟩), 34, none, true⟩, .e, []⟩,
  ⟨8, ⟨some 76, .binOp .eql 34 (.tmp 71) (.tmp 75) 34, 4, none, true⟩, .q, []⟩,
  ⟨9, ⟨some 8, .assign (.tmp 76), 4, none, true⟩, .q, []⟩]
theorem dc36_15 : drawC ap (drawOf T.c36 15).toList [0, 1, 2, 4, 5, 6, 3, 7, 8, 9] [[], [], [1], [0, 1, 2], [], [], [5], [0, 1, 2, 3, 4, 5, 6], [0, 1, 2, 3, 4, 5, 6, 7], [0, 1, 2, 3, 4, 5, 6, 7, 8]] = some d36_15 := by kernel_rfl
def d36_17 : List DP := [⟨0, ⟨some 79, .move (.tmp 0), 32, none, true⟩, .q, []⟩,
  ⟨1, ⟨some 80, .load 28 (.tmp 6), 28, none, true⟩, .h, []⟩,
  ⟨3, ⟨some 82, .move (.tmp 1), 57, none, true⟩, .q, []⟩,
  ⟨4, ⟨some 83, .load 28 (.tmp 6), 28, none, true⟩, .h, [1]⟩,
  ⟨2, ⟨some 81, .call (⟨.value (.func 13), #[.tmp 79, .tmp 80], #[32, 28]⟩), 34, none, true⟩, .e, []⟩,
  ⟨5, ⟨some 84, .call (⟨.value (.func 66), #[.tmp 82, .tmp 83], #[57, 28]⟩), 34, none, true⟩, .e, []⟩,
  ⟨6, ⟨some 85, .binOp .eql 34 (.tmp 81) (.tmp 84) 34, 4, none, true⟩, .q, []⟩,
  ⟨7, ⟨some 8, .assign (.tmp 85), 4, none, true⟩, .q, []⟩]
theorem dc36_17 : drawC ap (drawOf T.c36 17).toList [0, 1, 3, 4, 2, 5, 6, 7] [[], [], [0, 1], [], [], [0, 1, 2, 3, 4], [0, 1, 2, 3, 4, 5], [0, 1, 2, 3, 4, 5, 6]] = some d36_17 := by kernel_rfl
def d36_18 : List DP := [⟨0, ⟨some 86, .fieldAddr 72 (.tmp 7) 1, 0, none, true⟩, .q, []⟩,
  ⟨1, ⟨some 87, .load 70 (.tmp 86), 70, none, true⟩, .h, [0]⟩,
  ⟨2, ⟨some 88, .fieldAddr 72 (.tmp 7) 1, 0, none, true⟩, .q, []⟩,
  ⟨3, ⟨some 89, .load 70 (.tmp 88), 70, none, true⟩, .h, [0]⟩,
  ⟨4, ⟨some 90, .binOp .shr 70 (.tmp 89) (.const (.int .u64 7)) 100, 70, none, true⟩, .q, []⟩,
  ⟨5, ⟨some 91, .fieldAddr 72 (.tmp 7) 1, 0, none, true⟩, .q, []⟩,
  ⟨6, ⟨some 92, .load 70 (.tmp 91), 70, none, true⟩, .h, [0]⟩,
  ⟨7, ⟨some 93, .binOp .shr 70 (.tmp 92) (.const (.int .u64 13)) 100, 70, none, true⟩, .q, []⟩,
  ⟨8, ⟨some 94, .fieldAddr 72 (.tmp 7) 1, 0, none, true⟩, .q, []⟩,
  ⟨9, ⟨some 95, .load 70 (.tmp 94), 70, none, true⟩, .h, [0]⟩,
  ⟨10, ⟨some 96, .binOp .shr 70 (.tmp 95) (.const (.int .u64 22)) 100, 70, none, true⟩, .q, []⟩,
  ⟨11, ⟨some 97, .fieldAddr 72 (.tmp 7) 1, 0, none, true⟩, .q, []⟩,
  ⟨12, ⟨some 98, .load 70 (.tmp 97), 70, none, true⟩, .h, [0]⟩,
  ⟨13, ⟨some 99, .binOp .shr 70 (.tmp 98) (.const (.int .u64 31)) 100, 70, none, true⟩, .q, []⟩,
  ⟨14, ⟨some 100, .fieldAddr 72 (.tmp 7) 1, 0, none, true⟩, .q, []⟩,
  ⟨15, ⟨some 101, .load 70 (.tmp 100), 70, none, true⟩, .h, [0]⟩,
  ⟨16, ⟨some 102, .binOp .shr 70 (.tmp 101) (.const (.int .u64 40)) 100, 70, none, true⟩, .q, []⟩,
  ⟨17, ⟨some 103, .buildSlice 22 6 #[(0, .tmp 87), (1, .tmp 90), (2, .tmp 93), (3, .tmp 96), (4, .tmp 99), (5, .tmp 102)], 22, none, true⟩, .a, []⟩,
  ⟨19, ⟨some 105, .load 28 (.tmp 6), 28, none, true⟩, .h, [1]⟩,
  ⟨18, ⟨some 104, .call (⟨.value (.func 9), #[.tmp 103], #[22]⟩), 24, none, true⟩, .e, []⟩,
  ⟨20, ⟨some 106, .call (⟨.value (.func 31), #[.tmp 104, .tmp 105], #[24, 28]⟩), 38, none, true⟩, .e, []⟩,
  ⟨21, ⟨some 15, .alloc 38, 0, none, true⟩, .a, []⟩,
  ⟨22, ⟨none, .store 38 (.tmp 15) (.tmp 106), 0, none, true⟩, .e, []⟩]
theorem dc36_18 : drawC ap (drawOf T.c36 18).toList [0, 1, 2, 3, 4, 5, 6, 7, 8, 9, 10, 11, 12, 13, 14, 15, 16, 17, 19, 18, 20, 21, 22] [[], [0], [], [2], [2, 3], [], [5], [5, 6], [], [8], [8, 9], [], [11], [11, 12], [], [14], [14, 15], [0, 1, 2, 3, 4, 5, 6, 7, 8, 9, 10, 11, 12, 13, 14, 15, 16], [0, 1, 2, 3, 4, 5, 6, 7, 8, 9, 10, 11, 12, 13, 14, 15, 16, 17], [], [0, 1, 2, 3, 4, 5, 6, 7, 8, 9, 10, 11, 12, 13, 14, 15, 16, 17, 18, 19], [], [0, 1, 2, 3, 4, 5, 6, 7, 8, 9, 10, 11, 12, 13, 14, 15, 16, 17, 18, 19, 20, 21]] = some d36_18 := by kernel_rfl
def d36_21 : List DP := [⟨0, ⟨some 111, .move (.tmp 0), 32, none, true⟩, .q, []⟩,
  ⟨1, ⟨some 112, .load 38 (.tmp 15), 38, none, true⟩, .h, []⟩,
  ⟨3, ⟨some 114, .move (.tmp 1), 57, none, true⟩, .q, []⟩,
  ⟨4, ⟨some 115, .load 38 (.tmp 15), 38, none, true⟩, .h, [1]⟩,
  ⟨2, ⟨some 113, .call (⟨.value (.func 14), #[.tmp 111, .tmp 112], #[32, 38]⟩), 34, none, true⟩, .e, []⟩,
  ⟨5, ⟨some 116, .call (⟨.value (.func 67), #[.tmp 114, .tmp 115], #[57, 38]⟩), 34, none, true⟩, .e, []⟩,
  ⟨6, ⟨some 117, .binOp .eql 34 (.tmp 113) (.tmp 116) 34, 4, none, true⟩, .q, []⟩,
  ⟨7, ⟨some 8, .assign (.tmp 117), 4, none, true⟩, .q, []⟩]
theorem dc36_21 : drawC ap (drawOf T.c36 21).toList [0, 1, 3, 4, 2, 5, 6, 7] [[], [], [0, 1], [], [], [0, 1, 2, 3, 4], [0, 1, 2, 3, 4, 5], [0, 1, 2, 3, 4, 5, 6]] = some d36_21 := by kernel_rfl
def d44_13 : List DP := [⟨0, ⟨some 62, .fieldAddr 28 (.tmp 8) 0, 0, none, true⟩, .q, []⟩,
  ⟨1, ⟨some 63, .load 26 (.tmp 62), 26, none, true⟩, .h, [0]⟩,
  ⟨2, ⟨some 64, .move (.tmp 9), 97, none, true⟩, .q, []⟩,
  ⟨3, ⟨some 65, .indexAddr 97 (.tmp 64) (.const (.int .i64 0)), 0, none, true⟩, .q, []⟩,
  ⟨4, ⟨some 66, .load 2 (.tmp 65), 2, none, true⟩, .h, [0]⟩,
  ⟨5, ⟨some 67, .move (.tmp 9), 97, none, true⟩, .q, []⟩,
  ⟨6, ⟨some 68, .indexAddr 97 (.tmp 67) (.const (.int .i64 1)), 0, none, true⟩, .q, []⟩,
  ⟨7, ⟨some 69, .load 2 (.tmp 68), 2, none, true⟩, .h, [0]⟩,
  ⟨8, ⟨some 70, .move (.tmp 9), 97, none, true⟩, .q, []⟩,
  ⟨9, ⟨some 71, .indexAddr 97 (.tmp 70) (.const (.int .i64 2)), 0, none, true⟩, .q, []⟩,
  ⟨10, ⟨some 72, .load 2 (.tmp 71), 2, none, true⟩, .h, [0]⟩,
  ⟨11, ⟨some 73, .move (.tmp 9), 97, none, true⟩, .q, []⟩,
  ⟨12, ⟨some 74, .indexAddr 97 (.tmp 73) (.const (.int .i64 3)), 0, none, true⟩, .q, []⟩,
  ⟨13, ⟨some 75, .load 2 (.tmp 74), 2, none, true⟩, .h, [0]⟩,
  ⟨14, ⟨some 76, .build 78 #[(0, .tmp 66), (1, .tmp 69), (2, .tmp 72), (3, .tmp 75)], 78, none, true⟩, .q, []⟩,
  ⟨15, ⟨some 77, .buildSlice 26 1 #[(0, .tmp 76)], 26, none, true⟩, .a, []⟩,
  ⟨16, ⟨some 78, .call (⟨.builtin .append, #[.tmp 63, .tmp 77], #[26, 26]⟩), 26, none, true⟩, .e, []⟩,
  ⟨17, ⟨some 79, .fieldAddr 28 (.tmp 8) 0, 0, none, true⟩, .q, []⟩,
  ⟨18, ⟨none, .store 26 (.tmp 79) (.tmp 78), 0, none, true⟩, .e, []⟩]
theorem dc44_13 : drawC ap (drawOf T.c44 13).toList [0, 1, 2, 3, 4, 5, 6, 7, 8, 9, 10, 11, 12, 13, 14, 15, 16, 17, 18] [[], [0], [], [2], [2, 3], [], [5], [5, 6], [], [8], [8, 9], [], [11], [11, 12], [2, 3, 4, 5, 6, 7, 8, 9, 10, 11, 12, 13], [2, 3, 4, 5, 6, 7, 8, 9, 10, 11, 12, 13, 14], [0, 1, 2, 3, 4, 5, 6, 7, 8, 9, 10, 11, 12, 13, 14, 15], [0, 1, 2, 3, 4, 5, 6, 7, 8, 9, 10, 11, 12, 13, 14, 15, 16], [0, 1, 2, 3, 4, 5, 6, 7, 8, 9, 10, 11, 12, 13, 14, 15, 16, 17]] = some d44_13 := by kernel_rfl
def d44_15 : List DP := [⟨0, ⟨some 85, .move (.tmp 10), 97, none, true⟩, .q, []⟩,
  ⟨1, ⟨some 86, .indexAddr 97 (.tmp 85) (.const (.int .i64 0)), 0, none, true⟩, .q, []⟩,
  ⟨2, ⟨some 87, .load 2 (.tmp 86), 2, none, true⟩, .h, []⟩,
  ⟨3, ⟨some 88, .move (.tmp 10), 97, none, true⟩, .q, []⟩,
  ⟨4, ⟨some 89, .indexAddr 97 (.tmp 88) (.const (.int .i64 1)), 0, none, true⟩, .q, []⟩,
  ⟨5, ⟨some 90, .load 2 (.tmp 89), 2, none, true⟩, .h, [1]⟩,
  ⟨6, ⟨some 91, .move (.tmp 10), 97, none, true⟩, .q, []⟩,
  ⟨7, ⟨some 92, .indexAddr 97 (.tmp 91) (.const (.int .i64 2)), 0, none, true⟩, .q, []⟩,
  ⟨8, ⟨some 93, .load 2 (.tmp 92), 2, none, true⟩, .h, [1, 2]⟩,
  ⟨9, ⟨some 94, .move (.tmp 10), 97, none, true⟩, .q, []⟩,
  ⟨10, ⟨some 95, .indexAddr 97 (.tmp 94) (.const (.int .i64 3)), 0, none, true⟩, .q, []⟩,
  ⟨11, ⟨some 96, .load 2 (.tmp 95), 2, none, true⟩, .h, [1, 2, 3]⟩,
  ⟨12, ⟨some 97, .move (.tmp 10), 97, none, true⟩, .q, []⟩,
  ⟨13, ⟨some 98, .indexAddr 97 (.tmp 97) (.const (.int .i64 4)), 0, none, true⟩, .q, []⟩,
  ⟨14, ⟨some 99, .load 2 (.tmp 98), 2, none, true⟩, .h, [1, 2, 3, 4]⟩,
  ⟨15, ⟨some 100, .move (.tmp 10), 97, none, true⟩, .q, []⟩,
  ⟨16, ⟨some 101, .indexAddr 97 (.tmp 100) (.const (.int .i64 5)), 0, none, true⟩, .q, []⟩,
  ⟨17, ⟨some 102, .load 2 (.tmp 101), 2, none, true⟩, .h, [1, 2, 3, 4, 5]⟩,
  ⟨18, ⟨some 103, .fieldAddr 28 (.tmp 8) 1, 0, none, true⟩, .q, []⟩,
  ⟨19, ⟨none, .store 2 (.tmp 103) (.tmp 87), 0, none, true⟩, .e, []⟩,
  ⟨20, ⟨some 104, .fieldAddr 28 (.tmp 8) 2, 0, none, true⟩, .q, []⟩,
  ⟨21, ⟨none, .store 3 (.tmp 104) (.tmp 90), 0, none, true⟩, .e, []⟩,
  ⟨22, ⟨some 105, .fieldAddr 28 (.tmp 8) 3, 0, none, true⟩, .q, []⟩,
  ⟨23, ⟨none, .store 2 (.tmp 105) (.tmp 93), 0, none, true⟩, .e, []⟩,
  ⟨24, ⟨some 106, .fieldAddr 28 (.tmp 8) 4, 0, none, true⟩, .q, []⟩,
  ⟨25, ⟨none, .store 2 (.tmp 106) (.tmp 96), 0, none, true⟩, .e, []⟩,
  ⟨26, ⟨some 107, .fieldAddr 28 (.tmp 8) 5, 0, none, true⟩, .q, []⟩,
  ⟨27, ⟨none, .store 2 (.tmp 107) (.tmp 99), 0, none, true⟩, .e, []⟩,
  ⟨28, ⟨some 108, .fieldAddr 28 (.tmp 8) 6, 0, none, true⟩, .q, []⟩,
  ⟨29, ⟨none, .store 2 (.tmp 108) (.tmp 102), 0, none, true⟩, .e, []⟩]
theorem dc44_15 : drawC ap (drawOf T.c44 15).toList [0, 1, 2, 3, 4, 5, 6, 7, 8, 9, 10, 11, 12, 13, 14, 15, 16, 17, 18, 19, 20, 21, 22, 23, 24, 25, 26, 27, 28, 29] [[], [0], [0, 1], [], [3], [3, 4], [], [6], [6, 7], [], [9], [9, 10], [], [12], [12, 13], [], [15], [15, 16], [0, 1, 2], [0, 1, 2, 18], [0, 1, 2, 3, 4, 5, 18, 19], [0, 1, 2, 3, 4, 5, 18, 19, 20], [0, 1, 2, 3, 4, 5, 6, 7, 8, 18, 19, 20, 21], [0, 1, 2, 3, 4, 5, 6, 7, 8, 18, 19, 20, 21, 22], [0, 1, 2, 3, 4, 5, 6, 7, 8, 9, 10, 11, 18, 19, 20, 21, 22, 23], [0, 1, 2, 3, 4, 5, 6, 7, 8, 9, 10, 11, 18, 19, 20, 21, 22, 23, 24], [0, 1, 2, 3, 4, 5, 6, 7, 8, 9, 10, 11, 12, 13, 14, 18, 19, 20, 21, 22, 23, 24, 25], [0, 1, 2, 3, 4, 5, 6, 7, 8, 9, 10, 11, 12, 13, 14, 18, 19, 20, 21, 22, 23, 24, 25, 26], [0, 1, 2, 3, 4, 5, 6, 7, 8, 9, 10, 11, 12, 13, 14, 15, 16, 17, 18, 19, 20, 21, 22, 23, 24, 25, 26, 27], [0, 1, 2, 3, 4, 5, 6, 7, 8, 9, 10, 11, 12, 13, 14, 15, 16, 17, 18, 19, 20, 21, 22, 23, 24, 25, 26, 27, 28]] = some d44_15 := by kernel_rfl
def d52_2 : List DP := [⟨0, ⟨some 4, .move (.tmp 0), 24, none, true⟩, .q, []⟩,
  ⟨1, ⟨some 5, .nilCheck (.tmp 4), 0, none, true⟩, .q, []⟩,
  ⟨2, ⟨some 6, .fieldAddr 76 (.tmp 5) 1, 0, none, true⟩, .q, []⟩,
  ⟨3, ⟨some 7, .load 3 (.tmp 6), 3, none, true⟩, .h, []⟩,
  ⟨4, ⟨some 8, .move (.tmp 0), 24, none, true⟩, .q, []⟩,
  ⟨5, ⟨some 9, .nilCheck (.tmp 8), 0, none, true⟩, .q, []⟩,
  ⟨6, ⟨some 10, .fieldAddr 76 (.tmp 9) 0, 0, none, true⟩, .q, []⟩,
  ⟨7, ⟨some 11, .load 22 (.tmp 10), 22, none, true⟩, .h, []⟩,
  ⟨8, ⟨some 12, .call (⟨.builtin .len, #[.tmp 11], #[22]⟩), 3, none, true⟩, .q, []⟩,
  ⟨9, ⟨some 13, .binOp .lss 3 (.tmp 7) (.tmp 12) 3, 4, none, true⟩, .q, []⟩]
theorem dc52_2 : drawC ap (drawOf T.c52 2).toList [0, 1, 2, 3, 4, 5, 6, 7, 8, 9] [[], [0], [0, 1], [0, 1, 2], [], [4], [4, 5], [4, 5, 6], [4, 5, 6, 7], [0, 1, 2, 3, 4, 5, 6, 7, 8]] = some d52_2 := by kernel_rfl
def d52_3 : List DP := [⟨0, ⟨some 14, .move (.tmp 0), 24, none, true⟩, .q, []⟩,
  ⟨1, ⟨some 15, .nilCheck (.tmp 14), 0, none, true⟩, .q, []⟩,
  ⟨2, ⟨some 16, .fieldAddr 76 (.tmp 15) 0, 0, none, true⟩, .q, []⟩,
  ⟨3, ⟨some 17, .load 22 (.tmp 16), 22, none, true⟩, .h, []⟩,
  ⟨4, ⟨some 18, .move (.tmp 0), 24, none, true⟩, .q, []⟩,
  ⟨5, ⟨some 19, .nilCheck (.tmp 18), 0, none, true⟩, .q, []⟩,
  ⟨6, ⟨some 20, .fieldAddr 76 (.tmp 19) 1, 0, none, true⟩, .q, []⟩,
  ⟨7, ⟨some 21, .load 3 (.tmp 20), 3, none, true⟩, .h, []⟩,
  ⟨8, ⟨some 22, .indexAddr 22 (.tmp 17) (.tmp 21), 0, none, true⟩, .q, []⟩,
  ⟨9, ⟨some 23, .load 70 (.tmp 22), 70, none, true⟩, .h, []⟩,
  ⟨10, ⟨some 3, .assign (.tmp 23), 70, none, true⟩, .q, []⟩]
theorem dc52_3 : drawC ap (drawOf T.c52 3).toList [0, 1, 2, 3, 4, 5, 6, 7, 8, 9, 10] [[], [0], [0, 1], [0, 1, 2], [], [4], [4, 5], [4, 5, 6], [0, 1, 2, 3, 4, 5, 6, 7], [0, 1, 2, 3, 4, 5, 6, 7, 8], [0, 1, 2, 3, 4, 5, 6, 7, 8, 9]] = some d52_3 := by kernel_rfl
def d53_8 : List DP := [⟨0, ⟨some 26, .fieldAddr 38 (.tmp 1) 0, 0, none, true⟩, .q, []⟩,
  ⟨1, ⟨some 27, .load 3 (.tmp 26), 3, none, true⟩, .h, []⟩,
  ⟨2, ⟨some 28, .move (.tmp 3), 9, none, true⟩, .q, []⟩,
  ⟨3, ⟨some 29, .move (.tmp 5), 3, none, true⟩, .q, []⟩,
  ⟨4, ⟨some 30, .index 9 (.tmp 28) (.tmp 29), 5, none, true⟩, .q, []⟩,
  ⟨5, ⟨some 31, .call (⟨.value (.func 84), #[.tmp 27, .tmp 30], #[3, 5]⟩), 125, none, true⟩, .e, []⟩,
  ⟨6, ⟨some 25, .move (.tmp 31), 125, none, true⟩, .q, []⟩,
  ⟨7, ⟨some 32, .extract (.tmp 25) 0, 2, none, true⟩, .q, []⟩,
  ⟨8, ⟨some 33, .extract (.tmp 25) 1, 2, none, true⟩, .q, []⟩,
  ⟨9, ⟨some 6, .assign (.tmp 32), 2, none, true⟩, .q, []⟩,
  ⟨10, ⟨some 7, .assign (.tmp 33), 2, none, true⟩, .q, []⟩]
theorem dc53_8 : drawC ap (drawOf T.c53 8).toList [0, 1, 2, 3, 4, 5, 6, 7, 8, 9, 10] [[], [0], [], [], [2, 3], [0, 1, 2, 3, 4], [0, 1, 2, 3, 4, 5], [0, 1, 2, 3, 4, 5, 6], [0, 1, 2, 3, 4, 5, 6], [0, 1, 2, 3, 4, 5, 6, 7], [0, 1, 2, 3, 4, 5, 6, 7, 8, 9]] = some d53_8 := by kernel_rfl
def d53_9 : List DP := [⟨0, ⟨some 34, .load 38 (.tmp 1), 38, none, true⟩, .h, []⟩,
  ⟨1, ⟨some 35, .move (.tmp 3), 9, none, true⟩, .q, []⟩,
  ⟨2, ⟨some 36, .move (.tmp 5), 3, none, true⟩, .q, []⟩,
  ⟨3, ⟨some 37, .index 9 (.tmp 35) (.tmp 36), 5, none, true⟩, .q, []⟩,
  ⟨4, ⟨some 38, .call (⟨.value (.func 55), #[.tmp 34, .tmp 37], #[38, 5]⟩), 2, none, true⟩, .e, []⟩,
  ⟨5, ⟨some 8, .assign (.tmp 38), 2, none, true⟩, .q, []⟩]
theorem dc53_9 : drawC ap (drawOf T.c53 9).toList [0, 1, 2, 3, 4, 5] [[], [], [], [1, 2], [0, 1, 2, 3], [0, 1, 2, 3, 4]] = some d53_9 := by kernel_rfl
def d53_12 : List DP := [⟨0, ⟨some 47, .load 38 (.tmp 4), 38, none, true⟩, .h, []⟩,
  ⟨1, ⟨some 48, .move (.tmp 3), 9, none, true⟩, .q, []⟩,
  ⟨2, ⟨some 49, .move (.tmp 5), 3, none, true⟩, .q, []⟩,
  ⟨3, ⟨some 50, .index 9 (.tmp 48) (.tmp 49), 5, none, true⟩, .q, []⟩,
  ⟨4, ⟨some 51, .move (.tmp 8), 2, none, true⟩, .q, []⟩,
  ⟨5, ⟨some 52, .call (⟨.value (.func 85), #[.tmp 47, .tmp 50, .tmp 51], #[38, 5, 2]⟩), 38, none, true⟩, .e, []⟩,
  ⟨6, ⟨none, .store 38 (.tmp 4) (.tmp 52), 0, none, true⟩, .e, []⟩]
theorem dc53_12 : drawC ap (drawOf T.c53 12).toList [0, 1, 2, 3, 4, 5, 6] [[], [], [], [1, 2], [], [0, 1, 2, 3, 4], [0, 1, 2, 3, 4, 5]] = some d53_12 := by kernel_rfl
def d56_1 : List DP := [⟨0, ⟨some 8, .move (.tmp 2), 3, none, true⟩, .q, []⟩,
  ⟨1, ⟨some 9, .fieldAddr 28 (.tmp 4) 0, 0, none, true⟩, .q, []⟩,
  ⟨2, ⟨some 10, .load 26 (.tmp 9), 26, none, true⟩, .h, [1]⟩,
  ⟨3, ⟨some 11, .move (.tmp 2), 3, none, true⟩, .q, []⟩,
  ⟨4, ⟨some 12, .indexAddr 26 (.tmp 10) (.tmp 11), 0, none, true⟩, .q, []⟩,
  ⟨5, ⟨some 13, .fieldAddr 78 (.tmp 12) 1, 0, none, true⟩, .q, []⟩,
  ⟨6, ⟨some 14, .load 2 (.tmp 13), 2, none, true⟩, .h, [1]⟩,
  ⟨7, ⟨some 15, .move (.tmp 0), 24, none, true⟩, .q, []⟩,
  ⟨8, ⟨some 16, .call (⟨.value (.func 29), #[.tmp 15, .const (.int .i64 61)], #[24, 3]⟩), 3, none, true⟩, .e, []⟩,
  ⟨14, ⟨some 7, .alloc 38, 0, none, true⟩, .a, []⟩,
  ⟨9, ⟨some 17, .binOp .add 2 (.tmp 14) (.tmp 16) 2, 2, none, true⟩, .q, []⟩,
  ⟨10, ⟨some 18, .binOp .sub 2 (.tmp 17) (.const (.int .i64 30)) 2, 2, none, true⟩, .q, []⟩,
  ⟨11, ⟨some 19, .call (⟨.builtin .min, #[.const (.int .i64 1000000000000), .tmp 18], #[2, 2]⟩), 2, none, true⟩, .q, []⟩,
  ⟨12, ⟨some 20, .call (⟨.builtin .max, #[.const (.int .i64 1), .tmp 19], #[2, 2]⟩), 2, none, true⟩, .q, []⟩,
  ⟨13, ⟨some 21, .build 38 #[(0, .const (.int .i64 9)), (3, .tmp 8), (7, .tmp 20)], 38, none, true⟩, .q, []⟩,
  ⟨15, ⟨none, .store 38 (.tmp 7) (.tmp 21), 0, none, true⟩, .e, []⟩]
theorem dc56_1 : drawC ap (drawOf T.c56 1).toList [0, 1, 2, 3, 4, 5, 6, 7, 8, 14, 9, 10, 11, 12, 13, 15] [[], [], [1], [], [1, 2, 3], [1, 2, 3, 4], [1, 2, 3, 4, 5], [], [7], [1, 2, 3, 4, 5, 6, 7, 8], [1, 2, 3, 4, 5, 6, 7, 8, 9], [1, 2, 3, 4, 5, 6, 7, 8, 9, 10], [1, 2, 3, 4, 5, 6, 7, 8, 9, 10, 11], [0, 1, 2, 3, 4, 5, 6, 7, 8, 9, 10, 11, 12], [], [0, 1, 2, 3, 4, 5, 6, 7, 8, 9, 10, 11, 12, 13, 14]] = some d56_1 := by kernel_rfl
def d57_2 : List DP := [⟨0, ⟨some 12, .move (.tmp 0), 24, none, true⟩, .q, []⟩,
  ⟨3, ⟨some 15, .move (.tmp 5), 3, none, true⟩, .q, []⟩,
  ⟨4, ⟨some 16, .move (.tmp 0), 24, none, true⟩, .q, []⟩,
  ⟨7, ⟨some 19, .move (.tmp 0), 24, none, true⟩, .q, []⟩,
  ⟨10, ⟨some 22, .fieldAddr 28 (.tmp 3) 0, 0, none, true⟩, .q, []⟩,
  ⟨11, ⟨some 23, .load 26 (.tmp 22), 26, none, true⟩, .h, [1, 2, 3, 4]⟩,
  ⟨12, ⟨some 24, .move (.tmp 5), 3, none, true⟩, .q, []⟩,
  ⟨13, ⟨some 25, .indexAddr 26 (.tmp 23) (.tmp 24), 0, none, true⟩, .q, []⟩,
  ⟨14, ⟨some 26, .fieldAddr 78 (.tmp 25) 1, 0, none, true⟩, .q, []⟩,
  ⟨15, ⟨some 27, .load 2 (.tmp 26), 2, none, true⟩, .h, [1, 2, 3, 4]⟩,
  ⟨16, ⟨some 28, .move (.tmp 0), 24, none, true⟩, .q, []⟩,
  ⟨1, ⟨some 13, .call (⟨.value (.func 29), #[.tmp 12, .const (.int .i64 7)], #[24, 3]⟩), 3, none, true⟩, .e, []⟩,
  ⟨2, ⟨some 14, .binOp .add 3 (.const (.int .i64 1)) (.tmp 13) 3, 3, none, true⟩, .q, []⟩,
  ⟨5, ⟨some 17, .call (⟨.value (.func 29), #[.tmp 16, .const (.int .i64 2)], #[24, 3]⟩), 3, none, true⟩, .e, []⟩,
  ⟨6, ⟨some 18, .binOp .add 3 (.const (.int .i64 1)) (.tmp 17) 3, 3, none, true⟩, .q, []⟩,
  ⟨8, ⟨some 20, .call (⟨.value (.func 29), #[.tmp 19, .const (.int .i64 30)], #[24, 3]⟩), 3, none, true⟩, .e, []⟩,
  ⟨9, ⟨some 21, .binOp .add 2 (.const (.int .i64 1)) (.tmp 20) 2, 2, none, true⟩, .q, []⟩,
  ⟨17, ⟨some 29, .call (⟨.value (.func 29), #[.tmp 28, .const (.int .i64 21)], #[24, 3]⟩), 3, none, true⟩, .e, []⟩,
  ⟨23, ⟨some 6, .alloc 38, 0, none, true⟩, .a, []⟩,
  ⟨18, ⟨some 30, .binOp .add 2 (.tmp 27) (.tmp 29) 2, 2, none, true⟩, .q, []⟩,
  ⟨19, ⟨some 31, .binOp .sub 2 (.tmp 30) (.const (.int .i64 10)) 2, 2, none, true⟩, .q, []⟩,
  ⟨20, ⟨some 32, .call (⟨.builtin .min, #[.const (.int .i64 1000000000000), .tmp 31], #[2, 2]⟩), 2, none, true⟩, .q, []⟩,
  ⟨21, ⟨some 33, .call (⟨.builtin .max, #[.const (.int .i64 1), .tmp 32], #[2, 2]⟩), 2, none, true⟩, .q, []⟩,
  ⟨22, ⟨some 34, .build 38 #[(0, .const (.int .i64 7)), (2, .tmp 14), (3, .tmp 15), (4, .tmp 18), (6, .tmp 21), (7, .tmp 33)], 38, none, true⟩, .q, []⟩,
  ⟨24, ⟨none, .store 38 (.tmp 6) (.tmp 34), 0, none, true⟩, .e, []⟩]
theorem dc57_2 : drawC ap (drawOf T.c57 2).toList [0, 3, 4, 7, 10, 11, 12, 13, 14, 15, 16, 1, 2, 5, 6, 8, 9, 17, 23, 18, 19, 20, 21, 22, 24] [[], [0], [0, 1], [], [], [0, 1, 4], [0, 1, 4, 5], [], [0, 1, 4, 5, 7], [0, 1, 4, 5, 7, 8], [], [10], [], [10, 11, 12], [10, 11, 12, 13], [10, 11, 12, 13, 14], [], [0, 1, 4, 5, 7, 8, 16], [0, 1, 4, 5, 7, 8, 10, 11, 12, 13, 14, 15, 16, 17], [0, 1, 4, 5, 7, 8, 10, 11, 12, 13, 14, 15, 16, 17, 18], [0, 1, 4, 5, 7, 8, 10, 11, 12, 13, 14, 15, 16, 17, 18, 19], [0, 1, 4, 5, 7, 8, 10, 11, 12, 13, 14, 15, 16, 17, 18, 19, 20], [0, 1, 2, 3, 4, 5, 6, 7, 8, 9, 10, 11, 12, 13, 14, 15, 16, 17, 18, 19, 20, 21], [], [0, 1, 2, 3, 4, 5, 6, 7, 8, 9, 10, 11, 12, 13, 14, 15, 16, 17, 18, 19, 20, 21, 22, 23]] = some d57_2 := by kernel_rfl
def d76_3 : List DP := [⟨0, ⟨some 9, .move (.tmp 0), 41, none, true⟩, .q, []⟩,
  ⟨1, ⟨some 10, .indexAddr 41 (.tmp 9) (.const (.int .i64 0)), 0, none, true⟩, .q, []⟩,
  ⟨2, ⟨some 11, .load 5 (.tmp 10), 5, none, true⟩, .h, []⟩,
  ⟨3, ⟨some 12, .convert 5 3 (.tmp 11), 3, none, true⟩, .h, []⟩,
  ⟨4, ⟨some 13, .binOp .shl 3 (.tmp 12) (.const (.int .u64 8)) 100, 3, none, true⟩, .q, []⟩,
  ⟨5, ⟨some 14, .move (.tmp 0), 41, none, true⟩, .q, []⟩,
  ⟨6, ⟨some 15, .indexAddr 41 (.tmp 14) (.const (.int .i64 1)), 0, none, true⟩, .q, []⟩,
  ⟨7, ⟨some 16, .load 5 (.tmp 15), 5, none, true⟩, .h, []⟩,
  ⟨8, ⟨some 17, .convert 5 3 (.tmp 16), 3, none, true⟩, .h, []⟩,
  ⟨9, ⟨some 18, .binOp .or 3 (.tmp 13) (.tmp 17) 3, 3, none, true⟩, .q, []⟩,
  ⟨10, ⟨some 5, .assign (.tmp 18), 3, none, true⟩, .q, []⟩]
theorem dc76_3 : drawC ap (drawOf T.c76 3).toList [0, 1, 2, 3, 4, 5, 6, 7, 8, 9, 10] [[], [0], [0, 1], [0, 1, 2], [0, 1, 2, 3], [], [5], [5, 6], [5, 6, 7], [0, 1, 2, 3, 4, 5, 6, 7, 8], [0, 1, 2, 3, 4, 5, 6, 7, 8, 9]] = some d76_3 := by kernel_rfl
def d76_8 : List DP := [⟨0, ⟨some 29, .move (.tmp 0), 41, none, true⟩, .q, []⟩,
  ⟨1, ⟨some 30, .move (.tmp 5), 3, none, true⟩, .q, []⟩,
  ⟨2, ⟨some 31, .binOp .add 3 (.tmp 30) (.const (.int .i64 2)) 3, 3, none, true⟩, .q, []⟩,
  ⟨3, ⟨some 32, .move (.tmp 5), 3, none, true⟩, .q, []⟩,
  ⟨4, ⟨some 33, .binOp .add 3 (.tmp 32) (.const (.int .i64 6)) 3, 3, none, true⟩, .q, []⟩,
  ⟨5, ⟨some 34, .slice 41 (.tmp 29) (some (.tmp 31)) (some (.tmp 33)) none, 41, none, true⟩, .h, [1, 2]⟩,
  ⟨6, ⟨some 35, .convert 41 9 (.tmp 34), 9, none, true⟩, .h, [1, 2]⟩,
  ⟨7, ⟨some 36, .move (.tmp 0), 41, none, true⟩, .q, []⟩,
  ⟨8, ⟨some 37, .move (.tmp 5), 3, none, true⟩, .q, []⟩,
  ⟨9, ⟨some 38, .binOp .add 3 (.tmp 37) (.const (.int .i64 2)) 3, 3, none, true⟩, .q, []⟩,
  ⟨10, ⟨some 39, .slice 41 (.tmp 36) none (some (.tmp 38)) none, 41, none, true⟩, .h, []⟩,
  ⟨11, ⟨some 40, .call (⟨.value (.func 90), #[.tmp 39], #[41]⟩), 98, none, true⟩, .e, []⟩,
  ⟨12, ⟨some 41, .call (⟨.value (.func 89), #[.tmp 40], #[98]⟩), 41, none, true⟩, .e, []⟩,
  ⟨13, ⟨some 42, .convert 41 9 (.tmp 41), 9, none, true⟩, .h, []⟩,
  ⟨14, ⟨some 43, .binOp .neq 9 (.tmp 35) (.tmp 42) 9, 4, none, true⟩, .q, []⟩,
  ⟨15, ⟨some 28, .assign (.tmp 43), 4, none, true⟩, .q, []⟩]
theorem dc76_8 : drawC ap (drawOf T.c76 8).toList [0, 1, 2, 3, 4, 5, 6, 7, 8, 9, 10, 11, 12, 13, 14, 15] [[], [], [1], [], [3], [0, 1, 2, 3, 4], [0, 1, 2, 3, 4, 5], [], [], [8], [7, 8, 9], [7, 8, 9, 10], [7, 8, 9, 10, 11], [7, 8, 9, 10, 11, 12], [0, 1, 2, 3, 4, 5, 6, 7, 8, 9, 10, 11, 12, 13], [0, 1, 2, 3, 4, 5, 6, 7, 8, 9, 10, 11, 12, 13, 14]] = some d76_8 := by kernel_rfl
def d76_10 : List DP := [⟨0, ⟨some 44, .move (.tmp 5), 3, none, true⟩, .q, []⟩,
  ⟨1, ⟨some 45, .makeSlice 41 (.const (.int .i64 0)) (.tmp 44), 41, none, true⟩, .a, []⟩,
  ⟨2, ⟨some 46, .move (.tmp 0), 41, none, true⟩, .q, []⟩,
  ⟨3, ⟨some 47, .move (.tmp 5), 3, none, true⟩, .q, []⟩,
  ⟨4, ⟨some 48, .binOp .add 3 (.tmp 47) (.const (.int .i64 2)) 3, 3, none, true⟩, .q, []⟩,
  ⟨5, ⟨some 49, .slice 41 (.tmp 46) (some (.const (.int .i64 2))) (some (.tmp 48)) none, 41, none, true⟩, .h, []⟩,
  ⟨7, ⟨some 51, .move (.tmp 5), 3, none, true⟩, .q, []⟩,
  ⟨8, ⟨some 52, .binOp .add 3 (.tmp 51) (.const (.int .i64 6)) 3, 3, none, true⟩, .q, []⟩,
  ⟨6, ⟨some 50, .call (⟨.builtin .append, #[.tmp 45, .tmp 49], #[41, 41]⟩), 41, none, true⟩, .e, []⟩,
  ⟨9, ⟨some 2, .assign (.tmp 50), 41, none, true⟩, .q, []⟩,
  ⟨10, ⟨some 3, .assign (.tmp 52), 3, none, true⟩, .q, []⟩,
  ⟨11, ⟨some 4, .assign (.const (.int .i64 0)), 34, none, true⟩, .q, []⟩]
theorem dc76_10 : drawC ap (drawOf T.c76 10).toList [0, 1, 2, 3, 4, 5, 7, 8, 6, 9, 10, 11] [[], [0], [], [], [3], [2, 3, 4], [0, 1, 2, 3, 4, 5], [], [7], [0, 1, 2, 3, 4, 5, 6], [0, 1, 2, 3, 4, 5, 6, 7, 8, 9], [0, 1, 2, 3, 4, 5, 6, 7, 8, 9, 10]] = some d76_10 := by kernel_rfl
def d86_3 : List DP := [⟨0, ⟨some 11, .move (.tmp 0), 41, none, true⟩, .q, []⟩,
  ⟨1, ⟨some 12, .indexAddr 41 (.tmp 11) (.const (.int .i64 0)), 0, none, true⟩, .q, []⟩,
  ⟨2, ⟨some 13, .load 5 (.tmp 12), 5, none, true⟩, .h, []⟩,
  ⟨3, ⟨some 14, .convert 5 3 (.tmp 13), 3, none, true⟩, .h, []⟩,
  ⟨4, ⟨some 15, .binOp .mul 3 (.const (.int .i64 256)) (.tmp 14) 3, 3, none, true⟩, .q, []⟩,
  ⟨5, ⟨some 16, .move (.tmp 0), 41, none, true⟩, .q, []⟩,
  ⟨6, ⟨some 17, .indexAddr 41 (.tmp 16) (.const (.int .i64 1)), 0, none, true⟩, .q, []⟩,
  ⟨7, ⟨some 18, .load 5 (.tmp 17), 5, none, true⟩, .h, []⟩,
  ⟨8, ⟨some 19, .convert 5 3 (.tmp 18), 3, none, true⟩, .h, []⟩,
  ⟨9, ⟨some 20, .binOp .add 3 (.tmp 15) (.tmp 19) 3, 3, none, true⟩, .q, []⟩,
  ⟨10, ⟨some 5, .assign (.tmp 20), 3, none, true⟩, .q, []⟩]
theorem dc86_3 : drawC ap (drawOf T.c86 3).toList [0, 1, 2, 3, 4, 5, 6, 7, 8, 9, 10] [[], [0], [0, 1], [0, 1, 2], [0, 1, 2, 3], [], [5], [5, 6], [5, 6, 7], [0, 1, 2, 3, 4, 5, 6, 7, 8], [0, 1, 2, 3, 4, 5, 6, 7, 8, 9]] = some d86_3 := by kernel_rfl
def d86_12 : List DP := [⟨0, ⟨some 37, .move (.tmp 0), 41, none, true⟩, .q, []⟩,
  ⟨1, ⟨some 38, .move (.tmp 5), 3, none, true⟩, .q, []⟩,
  ⟨2, ⟨some 39, .binOp .add 3 (.tmp 38) (.const (.int .i64 2)) 3, 3, none, true⟩, .q, []⟩,
  ⟨3, ⟨some 40, .move (.tmp 7), 3, none, true⟩, .q, []⟩,
  ⟨4, ⟨some 41, .binOp .add 3 (.tmp 39) (.tmp 40) 3, 3, none, true⟩, .q, []⟩,
  ⟨5, ⟨some 42, .indexAddr 41 (.tmp 37) (.tmp 41), 0, none, true⟩, .q, []⟩,
  ⟨6, ⟨some 43, .load 5 (.tmp 42), 5, none, true⟩, .h, []⟩,
  ⟨7, ⟨some 44, .move (.tmp 6), 98, none, true⟩, .q, []⟩,
  ⟨8, ⟨some 45, .move (.tmp 7), 3, none, true⟩, .q, []⟩,
  ⟨9, ⟨some 46, .binOp .mul 3 (.const (.int .i64 8)) (.tmp 45) 3, 3, none, true⟩, .q, []⟩,
  ⟨10, ⟨some 47, .binOp .shr 98 (.tmp 44) (.tmp 46) 3, 98, none, true⟩, .q, []⟩,
  ⟨11, ⟨some 48, .binOp .and 98 (.tmp 47) (.const (.int .u32 255)) 98, 98, none, true⟩, .q, []⟩,
  ⟨12, ⟨some 49, .convert 98 5 (.tmp 48), 5, none, true⟩, .h, []⟩,
  ⟨13, ⟨some 50, .binOp .neq 5 (.tmp 43) (.tmp 49) 5, 4, none, true⟩, .q, []⟩]
theorem dc86_12 : drawC ap (drawOf T.c86 12).toList [0, 1, 2, 3, 4, 5, 6, 7, 8, 9, 10, 11, 12, 13] [[], [], [1], [], [1, 2, 3], [0, 1, 2, 3, 4], [0, 1, 2, 3, 4, 5], [], [], [8], [7, 8, 9], [7, 8, 9, 10], [7, 8, 9, 10, 11], [0, 1, 2, 3, 4, 5, 6, 7, 8, 9, 10, 11, 12]] = some d86_12 := by kernel_rfl
def d87_16 : List DP := [⟨0, ⟨some 54, .fieldAddr 28 (.tmp 10) 0, 0, none, true⟩, .q, []⟩,
  ⟨1, ⟨some 55, .load 26 (.tmp 54), 26, none, true⟩, .h, [0]⟩,
  ⟨2, ⟨some 56, .move (.tmp 6), 97, none, true⟩, .q, []⟩,
  ⟨3, ⟨some 57, .move (.tmp 11), 3, none, true⟩, .q, []⟩,
  ⟨4, ⟨some 58, .binOp .mul 3 (.const (.int .i64 4)) (.tmp 57) 3, 3, none, true⟩, .q, []⟩,
  ⟨5, ⟨some 59, .indexAddr 97 (.tmp 56) (.tmp 58), 0, none, true⟩, .q, []⟩,
  ⟨6, ⟨some 60, .load 2 (.tmp 59), 2, none, true⟩, .h, [0]⟩,
  ⟨7, ⟨some 61, .move (.tmp 6), 97, none, true⟩, .q, []⟩,
  ⟨8, ⟨some 62, .move (.tmp 11), 3, none, true⟩, .q, []⟩,
  ⟨9, ⟨some 63, .binOp .mul 3 (.const (.int .i64 4)) (.tmp 62) 3, 3, none, true⟩, .q, []⟩,
  ⟨10, ⟨some 64, .binOp .add 3 (.tmp 63) (.const (.int .i64 1)) 3, 3, none, true⟩, .q, []⟩,
  ⟨11, ⟨some 65, .indexAddr 97 (.tmp 61) (.tmp 64), 0, none, true⟩, .q, []⟩,
  ⟨12, ⟨some 66, .load 2 (.tmp 65), 2, none, true⟩, .h, [0]⟩,
  ⟨13, ⟨some 67, .move (.tmp 6), 97, none, true⟩, .q, []⟩,
  ⟨14, ⟨some 68, .move (.tmp 11), 3, none, true⟩, .q, []⟩,
  ⟨15, ⟨some 69, .binOp .mul 3 (.const (.int .i64 4)) (.tmp 68) 3, 3, none, true⟩, .q, []⟩,
  ⟨16, ⟨some 70, .binOp .add 3 (.tmp 69) (.const (.int .i64 2)) 3, 3, none, true⟩, .q, []⟩,
  ⟨17, ⟨some 71, .indexAddr 97 (.tmp 67) (.tmp 70), 0, none, true⟩, .q, []⟩,
  ⟨18, ⟨some 72, .load 2 (.tmp 71), 2, none, true⟩, .h, [0]⟩,
  ⟨19, ⟨some 73, .move (.tmp 6), 97, none, true⟩, .q, []⟩,
  ⟨20, ⟨some 74, .move (.tmp 11), 3, none, true⟩, .q, []⟩,
  ⟨21, ⟨some 75, .binOp .mul 3 (.const (.int .i64 4)) (.tmp 74) 3, 3, none, true⟩, .q, []⟩,
  ⟨22, ⟨some 76, .binOp .add 3 (.tmp 75) (.const (.int .i64 3)) 3, 3, none, true⟩, .q, []⟩,
  ⟨23, ⟨some 77, .indexAddr 97 (.tmp 73) (.tmp 76), 0, none, true⟩, .q, []⟩,
  ⟨24, ⟨some 78, .load 2 (.tmp 77), 2, none, true⟩, .h, [0]⟩,
  ⟨25, ⟨some 79, .build 78 #[(0, .tmp 60), (1, .tmp 66), (2, .tmp 72), (3, .tmp 78)], 78, none, true⟩, .q, []⟩,
  ⟨26, ⟨some 80, .buildSlice 26 1 #[(0, .tmp 79)], 26, none, true⟩, .a, []⟩,
  ⟨27, ⟨some 81, .call (⟨.builtin .append, #[.tmp 55, .tmp 80], #[26, 26]⟩), 26, none, true⟩, .e, []⟩,
  ⟨28, ⟨some 82, .fieldAddr 28 (.tmp 10) 0, 0, none, true⟩, .q, []⟩,
  ⟨29, ⟨none, .store 26 (.tmp 82) (.tmp 81), 0, none, true⟩, .e, []⟩]
theorem dc87_16 : drawC ap (drawOf T.c87 16).toList [0, 1, 2, 3, 4, 5, 6, 7, 8, 9, 10, 11, 12, 13, 14, 15, 16, 17, 18, 19, 20, 21, 22, 23, 24, 25, 26, 27, 28, 29] [[], [0], [], [], [3], [2, 3, 4], [2, 3, 4, 5], [], [], [8], [8, 9], [7, 8, 9, 10], [7, 8, 9, 10, 11], [], [], [14], [14, 15], [13, 14, 15, 16], [13, 14, 15, 16, 17], [], [], [20], [20, 21], [19, 20, 21, 22], [19, 20, 21, 22, 23], [2, 3, 4, 5, 6, 7, 8, 9, 10, 11, 12, 13, 14, 15, 16, 17, 18, 19, 20, 21, 22, 23, 24], [2, 3, 4, 5, 6, 7, 8, 9, 10, 11, 12, 13, 14, 15, 16, 17, 18, 19, 20, 21, 22, 23, 24, 25], [0, 1, 2, 3, 4, 5, 6, 7, 8, 9, 10, 11, 12, 13, 14, 15, 16, 17, 18, 19, 20, 21, 22, 23, 24, 25, 26], [0, 1, 2, 3, 4, 5, 6, 7, 8, 9, 10, 11, 12, 13, 14, 15, 16, 17, 18, 19, 20, 21, 22, 23, 24, 25, 26, 27], [0, 1, 2, 3, 4, 5, 6, 7, 8, 9, 10, 11, 12, 13, 14, 15, 16, 17, 18, 19, 20, 21, 22, 23, 24, 25, 26, 27, 28]] = some d87_16 := by kernel_rfl
def d87_18 : List DP := [⟨0, ⟨some 87, .move (.tmp 6), 97, none, true⟩, .q, []⟩,
  ⟨1, ⟨some 88, .indexAddr 97 (.tmp 87) (.const (.int .i64 0)), 0, none, true⟩, .q, []⟩,
  ⟨2, ⟨some 89, .load 2 (.tmp 88), 2, none, true⟩, .h, []⟩,
  ⟨3, ⟨some 90, .move (.tmp 6), 97, none, true⟩, .q, []⟩,
  ⟨4, ⟨some 91, .indexAddr 97 (.tmp 90) (.const (.int .i64 1)), 0, none, true⟩, .q, []⟩,
  ⟨5, ⟨some 92, .load 2 (.tmp 91), 2, none, true⟩, .h, [1]⟩,
  ⟨6, ⟨some 93, .move (.tmp 6), 97, none, true⟩, .q, []⟩,
  ⟨7, ⟨some 94, .indexAddr 97 (.tmp 93) (.const (.int .i64 2)), 0, none, true⟩, .q, []⟩,
  ⟨8, ⟨some 95, .load 2 (.tmp 94), 2, none, true⟩, .h, [1, 2]⟩,
  ⟨9, ⟨some 96, .move (.tmp 6), 97, none, true⟩, .q, []⟩,
  ⟨10, ⟨some 97, .indexAddr 97 (.tmp 96) (.const (.int .i64 3)), 0, none, true⟩, .q, []⟩,
  ⟨11, ⟨some 98, .load 2 (.tmp 97), 2, none, true⟩, .h, [1, 2, 3]⟩,
  ⟨12, ⟨some 99, .move (.tmp 6), 97, none, true⟩, .q, []⟩,
  ⟨13, ⟨some 100, .indexAddr 97 (.tmp 99) (.const (.int .i64 4)), 0, none, true⟩, .q, []⟩,
  ⟨14, ⟨some 101, .load 2 (.tmp 100), 2, none, true⟩, .h, [1, 2, 3, 4]⟩,
  ⟨15, ⟨some 102, .move (.tmp 6), 97, none, true⟩, .q, []⟩,
  ⟨16, ⟨some 103, .indexAddr 97 (.tmp 102) (.const (.int .i64 5)), 0, none, true⟩, .q, []⟩,
  ⟨17, ⟨some 104, .load 2 (.tmp 103), 2, none, true⟩, .h, [1, 2, 3, 4, 5]⟩,
  ⟨18, ⟨some 105, .fieldAddr 28 (.tmp 10) 1, 0, none, true⟩, .q, []⟩,
  ⟨19, ⟨none, .store 2 (.tmp 105) (.tmp 89), 0, none, true⟩, .e, []⟩,
  ⟨20, ⟨some 106, .fieldAddr 28 (.tmp 10) 2, 0, none, true⟩, .q, []⟩,
  ⟨21, ⟨none, .store 3 (.tmp 106) (.tmp 92), 0, none, true⟩, .e, []⟩,
  ⟨22, ⟨some 107, .fieldAddr 28 (.tmp 10) 3, 0, none, true⟩, .q, []⟩,
  ⟨23, ⟨none, .store 2 (.tmp 107) (.tmp 95), 0, none, true⟩, .e, []⟩,
  ⟨24, ⟨some 108, .fieldAddr 28 (.tmp 10) 4, 0, none, true⟩, .q, []⟩,
  ⟨25, ⟨none, .store 2 (.tmp 108) (.tmp 98), 0, none, true⟩, .e, []⟩,
  ⟨26, ⟨some 109, .fieldAddr 28 (.tmp 10) 5, 0, none, true⟩, .q, []⟩,
  ⟨27, ⟨none, .store 2 (.tmp 109) (.tmp 101), 0, none, true⟩, .e, []⟩,
  ⟨28, ⟨some 110, .fieldAddr 28 (.tmp 10) 6, 0, none, true⟩, .q, []⟩,
  ⟨29, ⟨none, .store 2 (.tmp 110) (.tmp 104), 0, none, true⟩, .e, []⟩]
theorem dc87_18 : drawC ap (drawOf T.c87 18).toList [0, 1, 2, 3, 4, 5, 6, 7, 8, 9, 10, 11, 12, 13, 14, 15, 16, 17, 18, 19, 20, 21, 22, 23, 24, 25, 26, 27, 28, 29] [[], [0], [0, 1], [], [3], [3, 4], [], [6], [6, 7], [], [9], [9, 10], [], [12], [12, 13], [], [15], [15, 16], [0, 1, 2], [0, 1, 2, 18], [0, 1, 2, 3, 4, 5, 18, 19], [0, 1, 2, 3, 4, 5, 18, 19, 20], [0, 1, 2, 3, 4, 5, 6, 7, 8, 18, 19, 20, 21], [0, 1, 2, 3, 4, 5, 6, 7, 8, 18, 19, 20, 21, 22], [0, 1, 2, 3, 4, 5, 6, 7, 8, 9, 10, 11, 18, 19, 20, 21, 22, 23], [0, 1, 2, 3, 4, 5, 6, 7, 8, 9, 10, 11, 18, 19, 20, 21, 22, 23, 24], [0, 1, 2, 3, 4, 5, 6, 7, 8, 9, 10, 11, 12, 13, 14, 18, 19, 20, 21, 22, 23, 24, 25], [0, 1, 2, 3, 4, 5, 6, 7, 8, 9, 10, 11, 12, 13, 14, 18, 19, 20, 21, 22, 23, 24, 25, 26], [0, 1, 2, 3, 4, 5, 6, 7, 8, 9, 10, 11, 12, 13, 14, 15, 16, 17, 18, 19, 20, 21, 22, 23, 24, 25, 26, 27], [0, 1, 2, 3, 4, 5, 6, 7, 8, 9, 10, 11, 12, 13, 14, 15, 16, 17, 18, 19, 20, 21, 22, 23, 24, 25, 26, 27, 28]] = some d87_18 := by kernel_rfl
def d88_11 : List DP := [⟨0, ⟨some 45, .load 38 (.tmp 4), 38, none, true⟩, .h, []⟩,
  ⟨1, ⟨some 46, .move (.tmp 6), 9, none, true⟩, .q, []⟩,
  ⟨2, ⟨some 47, .move (.tmp 7), 3, none, true⟩, .q, []⟩,
  ⟨3, ⟨some 48, .index 9 (.tmp 46) (.tmp 47), 5, none, true⟩, .q, []⟩,
  ⟨4, ⟨some 49, .move (.tmp 8), 2, none, true⟩, .q, []⟩,
  ⟨6, ⟨some 51, .move (.tmp 9), 3, none, true⟩, .q, []⟩,
  ⟨5, ⟨some 50, .call (⟨.value (.func 85), #[.tmp 45, .tmp 48, .tmp 49], #[38, 5, 2]⟩), 38, none, true⟩, .e, []⟩,
  ⟨7, ⟨none, .store 38 (.tmp 4) (.tmp 50), 0, none, true⟩, .e, []⟩,
  ⟨8, ⟨some 5, .assign (.tmp 51), 3, none, true⟩, .q, []⟩]
theorem dc88_11 : drawC ap (drawOf T.c88 11).toList [0, 1, 2, 3, 4, 6, 5, 7, 8] [[], [], [], [1, 2], [], [0, 1, 2, 3, 4], [], [0, 1, 2, 3, 4, 5], [0, 1, 2, 3, 4, 5, 6, 7]] = some d88_11 := by kernel_rfl
def d92_3 : List DP := [⟨0, ⟨some 13, .load 3 (.tmp 2), 3, none, true⟩, .h, []⟩,
  ⟨1, ⟨some 14, .load 97 (.tmp 1), 97, none, true⟩, .h, []⟩,
  ⟨2, ⟨some 15, .move (.tmp 4), 3, none, true⟩, .q, []⟩,
  ⟨3, ⟨some 16, .slice 97 (.tmp 14) (some (.tmp 15)) none none, 97, none, true⟩, .h, []⟩,
  ⟨4, ⟨some 17, .call (⟨.builtin .len, #[.tmp 16], #[97]⟩), 3, none, true⟩, .q, []⟩,
  ⟨5, ⟨some 18, .call (⟨.builtin .min, #[.tmp 13, .tmp 17], #[3, 3]⟩), 3, none, true⟩, .q, []⟩,
  ⟨6, ⟨some 5, .assign (.tmp 18), 3, none, true⟩, .q, []⟩]
theorem dc92_3 : drawC ap (drawOf T.c92 3).toList [0, 1, 2, 3, 4, 5, 6] [[], [], [], [1, 2], [1, 2, 3], [0, 1, 2, 3, 4], [0, 1, 2, 3, 4, 5]] = some d92_3 := by kernel_rfl
end Go.Proofs.Ytcmpldjoggeceaa.T
end
section
/-! Next: the record at the beginning. -/
set_option linter.unusedVariables false
set_option linter.unusedSimpArgs false
set_option maxHeartbeats 4000000
set_option maxRecDepth 100000
namespace Go.Proofs.Ytcmpldjoggeceaa.T.Fm
open Go Go.Ab
def hdN (bs : List Int) : Nat := (256 * bs.getD 0 0 + bs.getD 1 0).toNat
def nxt (bs : List Int) : List Int × Nat × Int :=
  if bs.length < 2 then ([], 0, 12) else if 400 < hdN bs then ([], 0, 13) else if bs.length < hdN bs + 6 then ([], 0, 12) else
  if (bs.drop (hdN bs + 2)).take 4 = low4 (crcL (bs.take (hdN bs + 2))) then ((bs.drop 2).take (hdN bs), hdN bs + 6, 0) else ([], 0, 13)
theorem conv_txt {H : AH} {v : AV} {bs : List Int} (h : B8 H v bs) : toStr H v = some (.str (strN bs)) := toStr_b8 h
theorem low4_byt (c : Int) : Byt (low4 c) := byt_cons (wrap_u8_in _) (byt_cons (wrap_u8_in _) (byt_cons (wrap_u8_in _) (byt_cons (wrap_u8_in _) byt_nil)))
theorem next_ok {H : AH} {v : AV} {bs : List Int} (h : B8 H v bs) (hb : Byt bs) (hl : bs.length ≤ 100000000000000) {k : Nat} (hk : bs.length + 20 < k) :
    Hx (callA ap k (.func 76 [] []) [v] 0 H) fun r => Chg [] H r.2 ∧ ∃ x, r.1 = .tuple [x, .int .i64 (nxt bs).2.1, .int .i64 (nxt bs).2.2] ∧ B8 r.2 x (nxt bs).1 ∧ ∀ i ∈ blk x, H.length ≤ i := by
  obtain ⟨k, rfl⟩ : ∃ k', k = k' + 2 := ⟨k - 2, by omega⟩
  rw [hx_go fn76 rfl, b76]
  obtain ⟨a, c, s, rfl⟩ := h.len8
  by_cases h2 : bs.length < 2
  · have h2' : (bs.length : Int) < 2 := by omega
    simp [f76, b76, h2', nxt, h2]
    exact ⟨.refl, .nil _ _⟩
  · have h2' : ¬ (bs.length : Int) < 2 := by omega
    obtain ⟨b0, o0, c0, l0, e0, r0, g0⟩ := h.get8 (i := 0) (by omega)
    obtain ⟨b1, o1, c1, l1, e1, r1, g1⟩ := h.get8 (i := 1) (by omega)
    cases e0; cases e1
    rw [r0] at r1; cases r1
    have y0 := hb.get 0
    have y1 := hb.get 1
    have hn : (hdN bs : Int) = 256 * bs.getD 0 0 + bs.getD 1 0 := by unfold hdN; omega
    unfold nxt
    generalize hdN bs = n at *
    generalize bs.getD 0 0 = x0 at *
    generalize bs.getD 1 0 = x1 at *
    have w0 : IntKind.i64.wrap x0 = x0 := wrap_i64 (by omega) (by omega)
    have w1 : IntKind.i64.wrap x1 = x1 := wrap_i64 (by omega) (by omega)
    have hor : ior .i64 (ishl .i64 x0 8) x1 = (n : Int) := by rw [ior_hi y0 y1, hn]
    have h1 : (1 : Int) < bs.length := by omega
    have h0 : 0 < bs.length := by omega
    have w6 : IntKind.i64.wrap ((n : Int) + 6) = (n : Int) + 6 := wrap_i64 (by omega) (by omega)
    have w2 : IntKind.i64.wrap ((n : Int) + 2) = (n : Int) + 2 := wrap_i64 (by omega) (by omega)
    rw [if_neg h2]
    simp only [Nat.add_zero] at g0
    simp [f76, b76, h2']
    refine hx_drawn dc76_3 fun H1 hc1 hl1 hd1 => ?_
    have r0' := hc1.row r0 (by simp)
    by_cases h400 : 400 < n
    · have h400' : 400 < (n : Int) := by omega
      simp [d76_3, r0', g0, g1, h1, h0, w0, w1, hor, h400, h400']
      exact ⟨hc1, .nil _ _⟩
    have h400' : ¬ 400 < (n : Int) := by omega
    by_cases h6 : bs.length < n + 6
    · have h6' : (bs.length : Int) < (n : Int) + 6 := by omega
      simp [d76_3, r0', g0, g1, h1, h0, w0, w1, hor, h400', w6, h6']
      simp [h400, h6]
      exact ⟨hc1, .nil _ _⟩
    have h6' : ¬ (bs.length : Int) < (n : Int) + 6 := by omega
    simp [d76_3, r0', g0, g1, h1, h0, w0, w1, hor, h400', w6, h6']
    clear hor w0 w1 g0 g1 hd1 hl1 r0'
    refine hx_drawn dc76_8 fun H2 hc2 hl2 hd2 => ?_
    replace hc2 := hc1.tr hc2
    have hv := h.keep hc2
    obtain ⟨v1, a1, s1, k1, _⟩ := hv.cut8 (low := some (.int .i64 ((n : Int) + 2))) (high := some (.int .i64 ((n : Int) + 6))) (lo := n + 2) (hi := n + 6) (by omega) (by omega) (by simp [lowIs]) (by simp [highIs])
    obtain ⟨v2, a2, s2, k2, _⟩ := hv.cut8 (low := none) (high := some (.int .i64 ((n : Int) + 2))) (lo := 0) (hi := n + 2) (by omega) (by omega) (by simp [lowIs]) (by simp [highIs])
    rw [List.drop_zero] at s2
    rw [List.drop_take, show n + 6 - (n + 2) = 4 by omega] at s1
    have cS := sum_ok (lo := 0) (k := k + 1) s2.bs (by simp; omega) (by simp; omega)
    have cL : callA ap (k + 1) (.func 89 [] []) [.int .u32 (crcL (bs.take (n + 2)))] 0 H2 = some (.slice (some (H2.length, 0)) 4 (some 4) 1, H2 ++ [.cells (u8s (low4 (crcL (bs.take (n + 2))))) .rw]) := low_ok
    have hc3 : Chg [] H2 (H2 ++ [.cells (u8s (low4 (crcL (bs.take (n + 2))))) .rw]) := .app _ _
    have t1 := toStr_b8 s1
    have a1' := aslice_chg hc3 (by simp) a1
    have t1' := toStr_b8 (s1.keep hc3)
    have t3 : toStr (H2 ++ [.cells (u8s (low4 (crcL (bs.take (n + 2))))) .rw]) (.slice (some (H2.length, 0)) 4 (some 4) 1) = some (.str (strN (low4 (crcL (bs.take (n + 2)))))) :=
      toStr_b8 (SL.mk Nat.one_pos (by simp [rowOf]) (by simp [low4]) (by simp))
    have q := strN_beq ((hb.drop (n + 2)).take 4) (low4_byt (crcL (bs.take (n + 2))))
    generalize hh3 : (H2 ++ [.cells (u8s (low4 (crcL (bs.take (n + 2))))) .rw]) = H3 at *
    by_cases hq : (bs.drop (n + 2)).take 4 = low4 (crcL (bs.take (n + 2)))
    · simp [d76_8, w2, w6, a1, t1, a2, cS, cL, t3, q, hq, a1', t1']
      clear t3 cL cS a2 t1 t1' a1 a1' q hh3
      refine hx_drawn dc76_10 fun H4 hc4 hl4 hd4 => ?_
      have hc5 : Chg [] H (H4.set (H3.length + 1) (.cells (List.replicate n (.int .u8 0)) .rw)) := ((hc2.tr hc3).tr (hc4.trans (Chg.set _ _ _) (by simp)))
      have ow : Mine (H4.set (H3.length + 1) (.cells (List.replicate n (.int .u8 0)) .rw)) 1 (.slice (some (H3.length + 1, 0)) 0 (some n) 1) [] :=
        .row _ _ _ (List.replicate n (.int .u8 0)) _ Nat.one_pos (List.getElem?_set_self (lt_of_get (hd4 1 (by simp [d76_10])))) (by simp) (by simp) (by simp)
      obtain ⟨v5, a5, s5, k5, _⟩ := (h.keep hc5).cut8 (low := some (.int .i64 2)) (high := some (.int .i64 ((n : Int) + 2))) (lo := 2) (hi := n + 2) (by omega) (by omega) (by simp [lowIs]) (by simp [highIs])
      rw [List.drop_take, show n + 2 - 2 = n by omega] at s5
      have hd := hd4 1 (by simp [d76_10])
      have hcm : canMake 0 n 1 1 := by unfold canMake room; omega
      simp [d76_10, w2, w6, hd, hcm]
      generalize (H4.set (H3.length + 1) (.cells (List.replicate n (.int .u8 0)) .rw)) = H5 at *
      simp [a5]
      refine Hx.mapp (ow.append s5 Nat.one_pos Nat.one_pos u8s_one (by simp [room]; omega)) ?_
      rintro ⟨v6, H6⟩ ⟨o6, c6, k6⟩
      simp [w6, h400, h6]
      have hle := (hc2.tr hc3).1
      have hle5 := hc5.1
      refine ⟨hc5.trans c6 (fun i hi => .inr ?_), by simpa using o6.sl, fun i hi => ?_⟩
      · simp at hi
        omega
      · rcases k6 i hi with hi | hi
        · simp at hi
          omega
        · omega
    · simp [d76_8, w2, w6, a1, t1, a2, cS, cL, t3, q, hq, a1', t1']
      simp [h400, h6]
      exact ⟨hc2.tr hc3, .nil _ _⟩
end Go.Proofs.Ytcmpldjoggeceaa.T.Fm
end
section
/-! The document's Next. -/
set_option linter.unusedVariables false
set_option linter.unusedSimpArgs false
set_option maxHeartbeats 4000000
set_option maxRecDepth 100000
namespace Go.Proofs.Ytcmpldjoggeceaa.T.Fm
open Go Go.Ab
theorem low_get (bs : List Int) {k : Nat} (hk : k < 4) : IntKind.u8.wrap (iand .u32 (ishr .u32 (crcL bs) (8 * (k : Int))) 255) = (low4 (crcL bs)).getD k 0 := by
  obtain ⟨n, h1, h2⟩ := crcL_nat bs
  rw [h1]
  have e : ishr .u32 (n : Int) (8 * (k : Int)) = ((n / 2 ^ (8 * k) : Nat) : Int) := by
    have := ishr_nat n (8 * k) (by omega)
    simpa using this
  have a8 : ishr .u32 (n : Int) 8 = ((n / 2 ^ 8 : Nat) : Int) := ishr_nat n 8 (by omega)
  have a16 : ishr .u32 (n : Int) 16 = ((n / 2 ^ 16 : Nat) : Int) := ishr_nat n 16 (by omega)
  have a24 : ishr .u32 (n : Int) 24 = ((n / 2 ^ 24 : Nat) : Int) := ishr_nat n 24 (by omega)
  rw [e]
  unfold low4
  rw [a8, a16, a24]
  obtain rfl | rfl | rfl | rfl : k = 0 ∨ k = 1 ∨ k = 2 ∨ k = 3 := by omega
  · simp [wrap_and255 (n := n) (by omega)]
  · exact wrap_and255 (by omega)
  · exact wrap_and255 (by omega)
  · exact wrap_and255 (by omega)
theorem ref_ok {H : AH} {v : AV} {bs : List Int} (h : B8 H v bs) (hb : Byt bs) (hl : bs.length ≤ 100000000000000) {k : Nat} (hk : bs.length + 20 < k) :
    Hx (callA ap k (.func 86 [] []) [v] 0 H) fun r => Chg [] H r.2 ∧ ∃ x, r.1 = .tuple [x, .int .i64 (nxt bs).2.1, .int .i64 (nxt bs).2.2] ∧ B8 r.2 x (nxt bs).1 ∧ ∀ i ∈ blk x, H.length ≤ i := by
  obtain ⟨k, rfl⟩ : ∃ k', k = k' + 2 := ⟨k - 2, by omega⟩
  rw [hx_go fn86 rfl, b86]
  obtain ⟨a, c, s, rfl⟩ := h.len8
  by_cases h2 : bs.length < 2
  · have h2' : (bs.length : Int) < 2 := by omega
    simp [f86, b86, h2', nxt, h2]
    exact ⟨.refl, .nil _ _⟩
  · have h2' : ¬ (bs.length : Int) < 2 := by omega
    have hget := fun i (hi : i < bs.length) => h.get8 (i := i) hi
    obtain ⟨b0, o0, c0, l0, e0, r0, g0⟩ := hget 0 (by omega)
    cases e0
    have gi : ∀ i, i < bs.length → l0[o0 + i]? = some (.int .u8 (bs.getD i 0)) := fun i hi => by
      obtain ⟨b1, o1, c1, l1, e1, r1, g1⟩ := hget i hi
      cases e1
      rw [r0] at r1; cases r1
      exact g1
    have g1 := gi 1 (by omega)
    have y0 := hb.get 0
    have y1 := hb.get 1
    have hn : (hdN bs : Int) = 256 * bs.getD 0 0 + bs.getD 1 0 := by unfold hdN; omega
    unfold nxt
    generalize hdN bs = n at *
    generalize bs.getD 0 0 = x0 at *
    generalize bs.getD 1 0 = x1 at *
    have w0 : IntKind.i64.wrap x0 = x0 := wrap_i64 (by omega) (by omega)
    have w1 : IntKind.i64.wrap x1 = x1 := wrap_i64 (by omega) (by omega)
    have w3 : IntKind.i64.wrap (256 * x0) = 256 * x0 := wrap_i64 (by omega) (by omega)
    have hor : IntKind.i64.wrap (256 * x0 + x1) = (n : Int) := by rw [wrap_i64 (by omega) (by omega), hn]
    have h1 : (1 : Int) < bs.length := by omega
    have h0 : 0 < bs.length := by omega
    have w6 : IntKind.i64.wrap ((n : Int) + 6) = (n : Int) + 6 := wrap_i64 (by omega) (by omega)
    have w2 : IntKind.i64.wrap ((n : Int) + 2) = (n : Int) + 2 := wrap_i64 (by omega) (by omega)
    rw [if_neg h2]
    simp only [Nat.add_zero] at g0
    simp [f86, b86, h2']
    refine hx_drawn dc86_3 fun H1 hc1 hl1 hd1 => ?_
    have r0' := hc1.row r0 (by simp)
    by_cases h400 : 400 < n
    · have h400' : 400 < (n : Int) := by omega
      simp [d86_3, r0', g0, g1, h1, h0, w0, w1, w3, hor, h400, h400']
      exact ⟨hc1, .nil _ _⟩
    have h400' : ¬ 400 < (n : Int) := by omega
    by_cases h6 : bs.length < n + 6
    · have h6' : (bs.length : Int) < (n : Int) + 6 := by omega
      simp [d86_3, r0', g0, g1, h1, h0, w0, w1, w3, hor, h400', w6, h6']
      simp [h400, h6]
      exact ⟨hc1, .nil _ _⟩
    have h6' : ¬ (bs.length : Int) < (n : Int) + 6 := by omega
    have hv := h.keep hc1
    obtain ⟨v2, a2, s2, k2, _⟩ := hv.cut8 (low := none) (high := some (.int .i64 ((n : Int) + 2))) (lo := 0) (hi := n + 2) (by omega) (by omega) (by simp [lowIs]) (by simp [highIs])
    rw [List.drop_zero] at s2
    have cS := crc_ok (lo := 0) (k := k + 1) s2.bs (by simp; omega) (by simp; omega)
    simp [d86_3, r0', g0, g1, h1, h0, w0, w1, w3, hor, h400', w6, w2, h6', a2, cS, h400, h6]
    have hlow := @low_get (bs.take (n + 2))
    generalize crcL (bs.take (n + 2)) = cc at *
    refine hx_up (fun i s => ∃ H', s = ⟨sp 59 [(0, .slice (some (b0, o0)) bs.length c 1), (5, .int .i64 n), (6, .int .u32 cc), (7, .int .i64 i)], H', []⟩ ∧ Chg [] H H' ∧ ∀ j < i, bs.getD (n + 2 + j) 0 = (low4 cc).getD j 0) 4 ?_ ?_ (by omega) ⟨H1, by simp [maskS], hc1, by simp⟩
    · rintro i s hi ⟨H2, rfl, hc2, hin⟩
      have hi4 : (i : Int) < 4 := by omega
      simp [hi4]
      refine hx_drawn dc86_12 fun H3 hc3 hl3 hd3 => ?_
      have r3 := (hc2.tr hc3).row r0 (by simp)
      have gg := gi (n + 2 + i) (by omega)
      have wi : IntKind.i64.wrap ((n : Int) + 2 + i) = ((n + 2 + i : Nat) : Int) := by rw [wrap_i64 (by omega) (by omega)]; omega
      have wl : ((n + 2 + i : Nat) : Int) < bs.length := by omega
      have w8 : IntKind.i64.wrap (8 * (i : Int)) = 8 * (i : Int) := wrap_i64 (by omega) (by omega)
      have s8 : ¬ 8 * (i : Int) < 0 := by omega
      have wi1 : IntKind.i64.wrap ((i : Int) + 1) = (i : Int) + 1 := wrap_i64 (by omega) (by omega)
      have hlw := hlow hi
      simp only [List.getD_eq_getElem?_getD] at gg hlw
      simp [d86_12, r3, gg, w2, wi, wl, w8, s8, hlw, condK_b, -Int.natCast_add]
      split
      · rename_i he
        simp [maskS, wi1]
        refine ⟨hc2.tr hc3, fun j hj => ?_⟩
        by_cases hji : j = i
        · subst hji; exact he
        · have := hin j (by omega)
          simpa [List.getD_eq_getElem?_getD] using this
      · rename_i he
        have hne : ¬ (bs.drop (n + 2)).take 4 = low4 cc := fun e => he (by
          rw [← e, List.getElem?_take_of_lt hi, List.getElem?_drop])
        simp [hne]
        exact ⟨hc2.tr hc3, .nil _ _⟩
    · rintro s ⟨H2, rfl, hc2, hin⟩
      have heq : (bs.drop (n + 2)).take 4 = low4 cc := eq_getD (by simp [low4]; omega) (fun j hj => by
        have hj4 : j < 4 := hj
        rw [← hin j hj4]
        simp only [List.getD_eq_getElem?_getD]
        rw [List.getElem?_take_of_lt hj4, List.getElem?_drop])
      have hc5 : Chg [] H (H2 ++ [.cells [] .rw]) := hc2.tr (.app _ _)
      have ow : Mine (H2 ++ [.cells [] .rw]) 1 (.slice (some (H2.length, 0)) 0 (some 0) 1) [] := Mine.new (l := []) (n := 0) (c := some 0) Nat.one_pos rfl (by simp) (by simp)
      obtain ⟨v5, a5, s5, k5, _⟩ := (h.keep hc5).cut8 (low := some (.int .i64 2)) (high := some (.int .i64 ((n : Int) + 2))) (lo := 2) (hi := n + 2) (by omega) (by omega) (by simp [lowIs]) (by simp [highIs])
      rw [List.drop_take, show n + 2 - 2 = n by omega] at s5
      simp [w2, a5, heq]
      refine Hx.mapp (ow.append s5 Nat.one_pos Nat.one_pos u8s_one (by simp [room]; omega)) ?_
      rintro ⟨v6, H6⟩ ⟨o6, c6, k6⟩
      simp [w6, heq]
      have hle := hc2.1
      have hle5 := hc5.1
      refine ⟨hc5.trans c6 (fun i hi => .inr ?_), by simpa using o6.sl, fun i hi => ?_⟩
      · simp at hi
        omega
      · rcases k6 i hi with hi | hi
        · simp at hi
          omega
        · omega
end Go.Proofs.Ytcmpldjoggeceaa.T.Fm
end
section
/-! The records of bytes: Clone, Walk. -/
set_option linter.unusedVariables false
set_option linter.unusedSimpArgs false
set_option maxHeartbeats 4000000
set_option maxRecDepth 100000
namespace Go.Proofs.Ytcmpldjoggeceaa.T.Fm
open Go Go.Ab
def pos (bs : List Int) : Nat → Nat
  | 0 => 0
  | j + 1 => pos bs j + (nxt (bs.drop (pos bs j))).2.1
def rcd (bs : List Int) (j : Nat) : List Int := (nxt (bs.drop (pos bs j))).1
def okAt (bs : List Int) (j : Nat) : Bool := (nxt (bs.drop (pos bs j))).2.2 == 0
def nrecF (bs : List Int) : Nat → Nat → Nat
  | 0, j => j
  | f + 1, j => if okAt bs j then nrecF bs f (j + 1) else j
def nrec (bs : List Int) : Nat := nrecF bs (bs.length + 1) 0
theorem nxt_ok {bs : List Int} (h : (nxt bs).2.2 = 0) : (nxt bs).1.length + 6 = (nxt bs).2.1 ∧ (nxt bs).2.1 ≤ bs.length ∧ (nxt bs).1.length ≤ 400 ∧ ∀ x ∈ (nxt bs).1, x ∈ bs := by
  unfold nxt at h ⊢
  split at h
  · simp at h
  · split at h
    · simp at h
    · split at h
      · simp at h
      · split at h
        · rename_i h1 h2 h3 h4
          simp only [h1, h2, h3, h4, if_true, if_false]
          simp
          refine ⟨by omega, by omega, by omega, fun x hx => List.mem_of_mem_drop (List.mem_of_mem_take hx)⟩
        · simp at h
theorem nxt_byt {bs : List Int} (hb : Byt bs) : Byt (nxt bs).1 := by
  unfold nxt
  split
  · exact byt_nil
  · split
    · exact byt_nil
    · split
      · exact byt_nil
      · split
        · exact (hb.drop _).take _
        · exact byt_nil
theorem pos_le {bs : List Int} : ∀ j, (∀ i, i < j → okAt bs i = true) → 6 * j ≤ pos bs j ∧ pos bs j ≤ bs.length
  | 0, _ => by simp [pos]
  | j + 1, h => by
    have ih := pos_le j (fun i hi => h i (by omega))
    have h1 := h j (by omega)
    simp only [okAt, beq_iff_eq] at h1
    have h2 := nxt_ok h1
    simp at h2
    simp only [pos]
    omega
theorem nrecF_spec {bs : List Int} : ∀ f j, (∀ i, i < j → okAt bs i = true) → bs.length + 1 ≤ f + j → (∀ i, i < nrecF bs f j → okAt bs i = true) ∧ okAt bs (nrecF bs f j) = false
  | 0, j, h, hf => by
    have := pos_le j h
    omega
  | f + 1, j, h, hf => by
    unfold nrecF
    cases hj : okAt bs j with
    | true =>
      rw [if_pos rfl]
      refine nrecF_spec f (j + 1) (fun i hi => ?_) (by omega)
      by_cases hij : i = j
      · subst hij; exact hj
      · exact h i (by omega)
    | false => rw [if_neg (by simp)]; exact ⟨h, hj⟩
theorem nrec_ok {bs : List Int} {i : Nat} (h : i < nrec bs) : okAt bs i = true := (nrecF_spec (bs.length + 1) 0 (by simp) (by omega)).1 i h
theorem nrec_no (bs : List Int) : okAt bs (nrec bs) = false := (nrecF_spec (bs.length + 1) 0 (by simp) (by omega)).2
theorem nrec_pos {bs : List Int} {j : Nat} (h : j ≤ nrec bs) : 6 * j ≤ pos bs j ∧ pos bs j ≤ bs.length := pos_le j fun i hi => nrec_ok (by omega)
theorem rcd_byt {bs : List Int} (h : Byt bs) {i : Nat} (hi : i < nrec bs) : Byt (rcd bs i) := fun x hx => by
  have h1 := nrec_ok hi
  simp only [okAt, beq_iff_eq] at h1
  exact h x (List.mem_of_mem_drop ((nxt_ok h1).2.2.2 x hx))

theorem clone_ok {H : AH} {v : AV} {bs : List Int} (h : B8 H v bs) (hl : bs.length ≤ 100000000000000) {k : Nat} :
    Hx (callA ap (k + 1) (.func 46 [] []) [v] 0 H) fun r => Chg [] H r.2 ∧ B8 r.2 r.1 bs ∧ ∀ i ∈ blk r.1, H.length ≤ i := by
  rw [hx_go fn46 rfl, b46]
  obtain ⟨a, c, s, rfl⟩ := h.len8
  cases a with
  | none =>
    simp [f46, b46, eqV]
    refine ⟨.refl, ?_⟩
    generalize hn : bs.length = n at h
    have : bs = [] := by
      have g := h.bs
      cases g
      rfl
    subst this
    exact .nil _ _
  | some p =>
    have ow : Mine (H ++ [.cells [] .rw]) 1 (.slice (some (H.length, 0)) 0 (some 0) 1) [] := Mine.new (l := []) (n := 0) (c := some 0) Nat.one_pos rfl (by simp) (by simp)
    simp [f46, b46, eqV]
    refine Hx.mapp (ow.append (h.keep (.app _ _)) Nat.one_pos Nat.one_pos u8s_one (by simp [room]; omega)) ?_
    rintro ⟨v6, H6⟩ ⟨o6, c6, k6⟩
    simp
    refine ⟨(Chg.app H _).trans c6 (by simp), by simpa using o6.sl, fun i hi => ?_⟩
    rcases k6 i hi with hi | hi
    · simp at hi; omega
    · simp at hi; omega

def walkA (bs : List Int) (j : Nat) (H : AH) (a : List AV) : Prop := ∃ x, a = [.int .i64 (pos bs j), x] ∧ B8 H x (rcd bs j)
def walkI (c m : Nat) (bs : List Int) (H : AH) : Prop := ∃ v, H[c]? = some (.cells [v] .rw) ∧ B8 H v bs ∧ ∀ i ∈ blk v, m ≤ i
theorem walk1_goes {bs : List Int} (hb : Byt bs) (hl : bs.length ≤ 100000000000000) {k c l m : Nat} {H0 : AH} (hk : bs.length + 30 < k) : Goes ap k (nrec bs) (.func 75 [] [.ptr (some (c, 0))]) (walkA bs) (walkI c m bs) H0 l := by
  intro J D hJ hD hI hround h0
  rw [hx_go fn75 rfl, b75]
  have hnp := nrec_pos (bs := bs) (Nat.le_refl _)
  simp [f75, b75]
  refine hx_up (fun i s => ∃ H', s = ⟨sp 27 [(0, .yield l), (1, .ptr (some (c, 0))), (3, .int .i64 (pos bs i))], H', []⟩ ∧ J i H') (nrec bs) ?_ ?_ (by omega) ⟨H0, by simp [maskS, pos], h0⟩
  · rintro i s hi ⟨H1, rfl, hJ1⟩
    obtain ⟨v, i1, i2, i3⟩ := hI _ _ hJ1
    have hp := nrec_pos (bs := bs) (j := i) (by omega)
    obtain ⟨a, c0, s0, rfl⟩ := i2.len8
    obtain ⟨v2, a2, s2, _, _⟩ := i2.cut8 (low := some (.int .i64 (pos bs i))) (high := none) (lo := pos bs i) (hi := bs.length) hp.2 (Nat.le_refl _) (by simp [lowIs]) (by simp [highIs])
    rw [List.take_length] at s2
    simp [rowOf, i1, a2]
    refine Hx.mapp (next_ok s2 (hb.drop _) (by simp; omega) (by simp; omega)) ?_
    rintro ⟨r, H2⟩ ⟨hc2, x, rfl, hx, hfr⟩
    have hok := nrec_ok hi
    simp only [okAt, beq_iff_eq] at hok
    simp [hok]
    refine Hx.mapp (hround i hi H2 _ (hJ _ _ _ hJ1 hc2) ⟨x, rfl, hx⟩) ?_
    rintro ⟨r, H3⟩ (⟨h1, h2⟩ | ⟨h1, h2⟩)
    · simp only at h1 h2
      subst h1
      have h3 := nxt_ok hok
      simp at h3
      have w : IntKind.i64.wrap ((pos bs i : Int) + ((nxt (bs.drop (pos bs i))).2.1 : Int)) = (pos bs (i + 1) : Int) := by
        simp only [pos]
        rw [wrap_i64 (by omega) (by omega)]
        omega
      simp [w, maskS]
      exact h2
    · simp only at h1 h2
      subst h1
      simp
      exact .inr h2
  · rintro s ⟨H1, rfl, hJ1⟩
    obtain ⟨v, i1, i2, i3⟩ := hI _ _ hJ1
    obtain ⟨a, c0, s0, rfl⟩ := i2.len8
    obtain ⟨v2, a2, s2, _, _⟩ := i2.cut8 (low := some (.int .i64 (pos bs (nrec bs)))) (high := none) (lo := pos bs (nrec bs)) (hi := bs.length) hnp.2 (Nat.le_refl _) (by simp [lowIs]) (by simp [highIs])
    rw [List.take_length] at s2
    simp [rowOf, i1, a2]
    refine Hx.mapp (next_ok s2 (hb.drop _) (by simp; omega) (by simp; omega)) ?_
    rintro ⟨r, H2⟩ ⟨hc2, x, rfl, hx, hfr⟩
    have hno := nrec_no bs
    simp only [okAt, beq_eq_false_iff_ne, ne_eq] at hno
    simp [hno]
    exact .inl (hJ _ _ _ hJ1 hc2)

/-- The function that goes through the records of bytes. -/
theorem walk_ok {H : AH} {v : AV} {bs : List Int} (h : B8 H v bs) (hl : bs.length ≤ 100000000000000) {k : Nat} :
    Hx (callA ap (k + 2) (.func 43 [] []) [v] 0 H) fun r => Chg [] H r.2 ∧ ∃ c, r.1 = .func 75 [] [.ptr (some (c, 0))] ∧ H.length ≤ c ∧ walkI c H.length bs r.2 := by
  rw [hx_go fn43 rfl, b43]
  simp [f43, b43]
  refine Hx.mapp (clone_ok h hl) ?_
  rintro ⟨v2, H2⟩ ⟨hc, hv, hf⟩
  simp only at hc hv
  obtain ⟨a, c, s, rfl⟩ := hv.len8
  simp [rowRw]
  exact ⟨hc.tr (.app _ _), hc.1, _, by simp, hv.keep (.app _ _), hf⟩

/-! the document's -/
/-- A slice of slices of bytes. -/
def BB (H : AH) (v : AV) (ls : List (List Int)) : Prop := ∃ vs, SL H 1 v vs ∧ vs.length = ls.length ∧ ∀ i, i < ls.length → ∀ x, vs[i]? = some x → B8 H x (ls.getD i [])
theorem records_ok {H : AH} {v : AV} {bs : List Int} (h : B8 H v bs) (hb : Byt bs) (hl : bs.length ≤ 10000000000000) {k : Nat} (hk : bs.length + 30 < k) :
    Hx (callA ap k (.func 60 [] []) [v] 0 H) fun r => Chg [] H r.2 ∧ ∃ x y, r.1 = .tuple [x, y, .int .i64 (pos bs (nrec bs))] ∧
      SL r.2 1 x ((List.range (nrec bs)).map fun i => .int .i64 (pos bs i)) ∧ BB r.2 y ((List.range (nrec bs)).map (rcd bs)) := by
  obtain ⟨k, rfl⟩ : ∃ k', k = k' + 1 := ⟨k - 1, by omega⟩
  rw [hx_go fn60 rfl, b60]
  have hnp := nrec_pos (bs := bs) (Nat.le_refl _)
  obtain ⟨a, c, s0, rfl⟩ := h.len8
  simp [f60, b60]
  refine hx_up (fun i s => ∃ H' x y vs, s = ⟨sp 35 [(0, .slice a bs.length c s0), (5, x), (6, y), (7, .int .i64 (pos bs i))], H', []⟩ ∧ Chg [] H H' ∧ (∀ b ∈ blk x, H.length ≤ b ∧ b ∉ blk y) ∧ (∀ b ∈ blk y, H.length ≤ b) ∧
      Mine H' 1 x ((List.range i).map fun i => .int .i64 (pos bs i)) ∧ Mine H' 1 y vs ∧ vs.length = i ∧ ∀ j, j < i → ∃ z, vs[j]? = some z ∧ B8 H' z (rcd bs j) ∧ ∀ b ∈ blk z, b ∉ blk x ∧ b ∉ blk y) (nrec bs) ?_ ?_ (by omega) ?_
  · rintro i s hi ⟨H1, x, y, vs, rfl, hc1, fx, fy, mx, my, hvl, hel⟩
    have hp := nrec_pos (bs := bs) (j := i) (by omega)
    obtain ⟨v2, a2, s2, _, _⟩ := (h.keep hc1).cut8 (low := some (.int .i64 (pos bs i))) (high := none) (lo := pos bs i) (hi := bs.length) hp.2 (Nat.le_refl _) (by simp [lowIs]) (by simp [highIs])
    rw [List.take_length] at s2
    simp [a2]
    refine Hx.mapp (ref_ok s2 (hb.drop _) (by simp; omega) (by simp; omega)) ?_
    rintro ⟨r, H2⟩ ⟨hc2, z, rfl, hz, fz⟩
    have hok := nrec_ok hi
    simp only [okAt, beq_iff_eq] at hok
    have h3 := nxt_ok hok
    simp at h3
    simp only at hc2 hz
    have one : AV.one z = true ∧ ∃ a n c s, z = .slice a n c s := by obtain ⟨a, c, s, rfl⟩ := hz.len8; exact ⟨rfl, _, _, _, _, rfl⟩
    obtain ⟨one, az, nz, cz, sz, rfl⟩ := one
    have w : IntKind.i64.wrap ((pos bs i : Int) + ((nxt (bs.drop (pos bs i))).2.1 : Int)) = (pos bs (i + 1) : Int) := by
      simp only [pos]
      rw [wrap_i64 (by omega) (by omega)]
      omega
    have l1 := hc1.1
    have l2 := hc2.1
    simp [hok]
    refine Hx.mapp (((mx.keep hc2).keep (.app _ _)).append (SL.mk Nat.one_pos (l := [.int .i64 (pos bs i)]) (by simp [rowOf]) (by simp) (by simp)) Nat.one_pos (by omega) (by simp) (by simp [room]; omega)) ?_
    rintro ⟨x', H3⟩ ⟨mx', cx, kx⟩
    simp only at mx' cx kx
    have l3 := cx.1
    simp only [List.length_append, List.length_cons, List.length_nil] at l3 kx
    simp [one]
    have my3 : Mine H3 1 y vs := ((my.keep hc2).keep (.app _ _)).chg cx (fun b hb hx => (fx b hx).2 hb)
    refine Hx.mapp ((my3.keep (.app _ _)).append (SL.mk Nat.one_pos (l := [.slice az nz cz sz]) (by simp [rowOf]) (by simp) (by simp)) Nat.one_pos (by omega) (by simp) (by simp [room]; omega)) ?_
    rintro ⟨y', H4⟩ ⟨my', cy, ky⟩
    simp only at my' cy ky
    simp only [List.length_append, List.length_cons, List.length_nil] at ky
    have lx := mx.lt
    have ly := my.lt
    have c3 : Chg (blk x) H2 (H3 ++ [.cells [.slice az nz cz sz] .rw]) := (((Chg.app _ _).trans cx (fun i hi => .inl hi))).tr (.app _ _)
    have c4 : Chg (blk x ++ blk y) H2 H4 := (c3.mono (fun i hi => .inl (by simp [hi]))).trans cy (fun i hi => .inl (by simp [hi]))
    have mx3 := mx'.lt
    simp [w]
    refine ⟨H4, x', y', (by simp [maskS]), ((hc1.tr hc2).trans c4 fun b hb => ?_), fun b hb => ?_, fun b hb => ?_, ?_, vs ++ [.slice az nz cz sz], my', by simp [hvl], fun j hj => ?_⟩
    · rcases List.mem_append.1 hb with hb | hb
      · exact .inr (fx b hb).1
      · exact .inr (fy b hb)
    · have hb3 := mx3 b hb
      refine ⟨?_, fun hy => ?_⟩
      · rcases kx b hb with hb | hb
        · exact (fx b hb).1
        · omega
      · rcases ky b hy with hy | hy
        · rcases kx b hb with hb | hb
          · exact (fx b hb).2 hy
          · have := ly b hy; omega
        · omega
    · rcases ky b hb with hb | hb
      · exact fy b hb
      · omega
    · have := (mx'.keep (.app _ [.cells [.slice az nz cz sz] .rw])).chg cy (fun b hb hy => by
        rcases kx b hb with hb | hb
        · exact (fx b hb).2 hy
        · have := ly b hy; omega)
      rw [List.range_succ, List.map_append]
      exact this
    · have hnot : ∀ b, b < H2.length → b ∉ blk x → b ∉ blk y → b ∉ blk x' ∧ b ∉ blk y' := fun b h1 h2 h3 => ⟨fun hx => by
        rcases kx b hx with hx | hx
        · exact h2 hx
        · omega, fun hy => by
        rcases ky b hy with hy | hy
        · exact h3 hy
        · omega⟩
      by_cases hji : j < i
      · obtain ⟨z', e1, e2, e3⟩ := hel j hji
        refine ⟨z', by rw [List.getElem?_append_left (by omega)]; exact e1, (e2.keep hc2).chg c4 (fun b hb h => ?_), fun b hb => ?_⟩
        · rcases List.mem_append.1 h with h | h
          · exact (e3 b hb).1 h
          · exact (e3 b hb).2 h
        · have := (e2.keep hc2).lt b hb
          exact hnot b this (e3 b hb).1 (e3 b hb).2
      · obtain rfl : j = i := by omega
        have hzl := hz.lt
        have hz1 : ∀ b ∈ blk (.slice az nz cz sz), b ∉ blk x ∧ b ∉ blk y := fun b hb => ⟨fun h => by
          have := lx b h; have := fz b hb; omega, fun h => by
          have := ly b h; have := fz b hb; omega⟩
        refine ⟨_, by rw [List.getElem?_append_right (by omega)]; simp [hvl], hz.chg c4 (fun b hb h => ?_), fun b hb => hnot b (hzl b hb) (hz1 b hb).1 (hz1 b hb).2⟩
        rcases List.mem_append.1 h with h | h
        · exact (hz1 b hb).1 h
        · exact (hz1 b hb).2 h
  · rintro s ⟨H1, x, y, vs, rfl, hc1, fx, fy, mx, my, hvl, hel⟩
    obtain ⟨v2, a2, s2, _, _⟩ := (h.keep hc1).cut8 (low := some (.int .i64 (pos bs (nrec bs)))) (high := none) (lo := pos bs (nrec bs)) (hi := bs.length) hnp.2 (Nat.le_refl _) (by simp [lowIs]) (by simp [highIs])
    rw [List.take_length] at s2
    simp [a2]
    refine Hx.mapp (ref_ok s2 (hb.drop _) (by simp; omega) (by simp; omega)) ?_
    rintro ⟨r, H2⟩ ⟨hc2, z, rfl, hz, fz⟩
    have hno := nrec_no bs
    simp only [okAt, beq_eq_false_iff_ne, ne_eq] at hno
    simp [hno]
    refine ⟨hc1.tr hc2, x, y, ⟨rfl, rfl⟩, mx.sl.keep hc2, vs, (my.sl.keep hc2), by simp [hvl], fun j hj z hz => ?_⟩
    obtain ⟨z', e1, e2, e3⟩ := hel j (by simpa using hj)
    rw [e1] at hz
    cases hz
    have hj' : j < nrec bs := by simpa using hj
    simpa [List.getD_eq_getElem?_getD, hj'] using e2.keep hc2
  · refine ⟨H, .slice none 0 (some 0) 0, .slice none 0 (some 0) 0, [], by simp [maskS, pos], .refl, by simp, by simp, .nil _ _, .nil _ _, rfl, by simp⟩
end Go.Proofs.Ytcmpldjoggeceaa.T.Fm
end
section
/-! Whole; scans. -/
set_option linter.unusedVariables false
set_option linter.unusedSimpArgs false
set_option maxHeartbeats 4000000
set_option maxRecDepth 100000
namespace Go.Proofs.Ytcmpldjoggeceaa.T.Fm
open Go Go.Ab
theorem walkI_ls {c m l : Nat} {bs : List Int} {H H' : AH} (h : walkI c m bs H) (g : Chg [] H H' ∨ LS l H H') : walkI c m bs H' := by
  obtain ⟨v, h1, h2, h3⟩ := h
  rcases g with g | g
  · exact ⟨v, g.get h1 (by simp), h2.keep g, h3⟩
  · exact ⟨v, g.get h1, g.sl h2, h3⟩
theorem walkI_chg {c m : Nat} {bs F : List _} {H H' : AH} (h : walkI c m bs H) (g : Chg F H H') (hF : ∀ i ∈ F, i < m) (hm : m ≤ c) : walkI c m bs H' := by
  obtain ⟨v, h1, h2, h3⟩ := h
  refine ⟨v, g.get h1 (fun h => ?_), h2.chg g (fun i hi h => ?_), h3⟩
  · have := hF _ h; omega
  · have := hF _ h; have := h3 i hi; omega
theorem get_ls {l b : Nat} {cs : List AV} {m : Md} {H H' : AH} (h : H[b]? = some (.cells cs m)) (g : Chg [] H H' ∨ LS l H H') : H'[b]? = some (.cells cs m) := by
  rcases g with g | g
  · exact g.get h (by simp)
  · exact g.get h
theorem chg_ls {l : Nat} {F : List Nat} {H0 H H' : AH} (h : Chg F H0 H) (hl : H0.length ≤ l) (g : Chg [] H H' ∨ LS l H H') : Chg F H0 H' := by
  rcases g with g | g
  · exact h.tr g
  · exact g.chg h hl
theorem whole_ok {H : AH} {v : AV} {bs : List Int} (h : B8 H v bs) (hb : Byt bs) (hl : bs.length ≤ 10000000000000) {k : Nat} (hk : bs.length + 40 < k) :
    Hx (callA ap k (.func 42 [] []) [v] 0 H) fun r => Chg [] H r.2 ∧ r.1 = .int .i64 (pos bs (nrec bs)) := by
  obtain ⟨k, rfl⟩ : ∃ k', k = k' + 3 := ⟨k - 3, by omega⟩
  rw [hx_go fn42 rfl, b42]
  simp [f42, b42, rowRw]
  refine Hx.mapp (walk_ok (h.keep (.app _ _)) (by omega)) ?_
  rintro ⟨g, H2⟩ ⟨hc, c, rfl, hcl, hw⟩
  simp
  have hcell : H2[H.length]? = some (.cells [.int .i64 0] .rw) := hc.get (by simp) (by simp)
  simp only at hc hw
  have hle := hc.1
  simp at hle hcl hw
  have hnp := nrec_pos (bs := bs) (Nat.le_refl _)
  refine hx_range (walkA bs) (walkI c (H.length + 1) bs) (fun j H' => Chg [H.length] H2 H' ∧ H'[H.length]? = some (.cells [.int .i64 (pos bs j)] .rw) ∧ walkI c (H.length + 1) bs H') (fun _ _ => False) (n := nrec bs) rfl (walk1_goes hb (by omega) (by omega))
    (fun j Ha Hb ⟨a, b, c⟩ g => ⟨chg_ls a (by simp) g, get_ls b g, walkI_ls c g⟩) (fun _ _ _ h => h.elim) (fun _ _ h => h.2.2) (fun j Ha Hb a ⟨x, e, hx⟩ g => ⟨x, e, g.sl hx⟩) (fun j Ha a ⟨x, e, hx⟩ => by rw [e]; rfl) ⟨.refl, hcell, hw⟩ ?_ ?_ (fun _ _ _ h => h.elim)
  · rintro j hj Ha a ⟨i1, i2, i3⟩ ⟨x, rfl, hx⟩ H1 ⟨c1, c2, c3⟩ ⟨x', e, hx'⟩ hl1 hl0 hd
    cases e
    obtain ⟨ax, cx, sx, rfl⟩ := hx'.len8
    have hok := nrec_ok hj
    simp only [okAt, beq_iff_eq] at hok
    have h3 := nxt_ok hok
    simp at h3
    have hp := nrec_pos (bs := bs) (j := j) (by omega)
    have hll : (rcd bs j).length + 6 = (nxt (bs.drop (pos bs j))).2.1 := h3.1
    have w1 : IntKind.i64.wrap ((pos bs j : Int) + ((rcd bs j).length : Int)) = (pos bs j : Int) + ((rcd bs j).length : Int) := wrap_i64 (by omega) (by omega)
    have w2 : IntKind.i64.wrap ((pos bs j : Int) + ((rcd bs j).length : Int) + 6) = (pos bs (j + 1) : Int) := by
      simp only [pos]
      rw [wrap_i64 (by omega) (by omega)]
      omega
    have hlt := lt_of_get c2
    unfold as42_0
    simp [setL]
    intro ms
    unfold bd42_0
    simp [rowRw, c2, w1, w2]
    refine ⟨?_, ?_, ?_, ?_⟩
    · rw [List.getElem?_set_ne (by omega)]
    · rw [List.getElem?_set_ne (by omega)]
    · exact c1.tr' (.set _ _ _)
    · simp [hlt]
      exact walkI_chg c3 (.set _ _ _) (by simp) hcl
  · rintro H3 ⟨c1, c2, c3⟩ hd
    simp only at hd
    simp [rowOf, c2, hd]
    refine (((Chg.app H _).tr hc).trans c1 (by simp)).trans (.set _ _ _) ?_
    simp
    omega
end Go.Proofs.Ytcmpldjoggeceaa.T.Fm
end
section
/-! Rows of rows of bytes; strings. -/
set_option linter.unusedVariables false
set_option linter.unusedSimpArgs false
namespace Go.Ab
/-- A slice of slices of bytes. -/
def BL (H : AH) (v : AV) (ls : List (List Int)) : Prop := ∃ vs, SL H 1 v vs ∧ vs.length = ls.length ∧ ∀ i, i < ls.length → ∀ x, vs[i]? = some x → B8 H x (ls.getD i [])
section
variable {H H' : AH} {v : AV} {ls : List (List Int)} {ap : AP}
theorem BL.keep (h : BL H v ls) (c : Chg [] H H') : BL H' v ls := by
  obtain ⟨vs, h1, h2, h3⟩ := h
  exact ⟨vs, h1.keep c, h2, fun i hi x hx => (h3 i hi x hx).keep c⟩
theorem BL.form (h : BL H v ls) : ∃ a c s, v = .slice a ls.length c s := by
  obtain ⟨vs, h1, h2, h3⟩ := h
  obtain ⟨a, c, s, rfl⟩ := h1.form1
  exact ⟨a, c, s, by rw [h2]⟩
theorem BL.get (h : BL H v ls) {i : Nat} (hi : i < ls.length) : ∃ b o c l z, v = .slice (some (b, o)) ls.length c 1 ∧ rowOf H b = some l ∧ l[o + i]? = some z ∧ B8 H z (ls.getD i []) := by
  obtain ⟨vs, h1, h2, h3⟩ := h
  obtain ⟨b, o, c, l, rfl, r, e⟩ := h1.get1 (i := i) (by omega)
  have hz : vs[i]? = some vs[i] := List.getElem?_eq_getElem (by omega)
  exact ⟨b, o, c, l, vs[i], by rw [h2], r, by rw [e, hz], h3 i hi _ hz⟩
theorem ar_bl {m : Nat} {t e u : Nat} {ti te tu : TI} {al : List AV} (h : AR ap m H t al) (ht : ap.ty t = some ti) (htd : ti.td = .slice e) (he : ap.ty e = some te) (hed : te.td = .slice u) (hes : te.sz = 1) (hu : ap.ty u = some tu) (hud : tu.td = .int .u8) (hus : tu.sz = 1) :
    ∃ v ls, al = [v] ∧ BL H v ls ∧ ∀ b ∈ ls, Byt b := by
  obtain ⟨v, es, m', rfl, h1, h2⟩ := ar_slice h ht htd he
  rw [hes] at h1
  obtain ⟨l, g1, g2⟩ := list_choose (R := fun x (b : List Int) => ∃ y, x = [y] ∧ B8 H y b ∧ Byt b) es fun x hx => by
    obtain ⟨y, b, e1, e2, e3⟩ := ar_bytes (h2 x hx).2 he hed hu hud hus
    exact ⟨b, y, e1, e2, e3⟩
  have hfl : es.flatten.length = es.length := by
    have := flatten_len es (fun x hx => (h2 x hx).1)
    rw [hes] at this
    omega
  refine ⟨v, l, rfl, ⟨es.flatten, h1, by omega, fun i hi x hx => ?_⟩, fun b hb => ?_⟩
  · have hes' : es[i]? = some es[i] := List.getElem?_eq_getElem (by omega)
    have hli : l[i]? = some l[i] := List.getElem?_eq_getElem hi
    obtain ⟨y, e1, e2, _⟩ := g2 i _ _ hes' hli
    have hg := flatten_get (sz := 1) Nat.one_pos es (fun x hx => by rw [(h2 x hx).1, hes]) i 0 (by omega)
    rw [Nat.mul_one, Nat.add_zero, hes'] at hg
    simp [e1] at hg
    have hg2 : es.flatten[i]? = some y := by rw [← hg]
    rw [hx] at hg2
    cases hg2
    simpa [List.getD_eq_getElem?_getD, hi] using e2
  · obtain ⟨i, hi⟩ := List.getElem?_of_mem hb
    have hil : i < l.length := (List.getElem?_eq_some_iff.1 hi).1
    obtain ⟨y, _, _, e3⟩ := g2 i _ _ (List.getElem?_eq_getElem (by omega : i < es.length)) hi
    exact e3
end
theorem strN_cat (a b : List Int) : strN a ++ strN b = strN (a ++ b) := by
  apply Go.WideShapes.bytes_inj
  simp [strN_data]
end Go.Ab
end
section
/-! Records one behind the other; cut off. -/
set_option linter.unusedVariables false
set_option linter.unusedSimpArgs false
set_option maxHeartbeats 4000000
set_option maxRecDepth 100000
namespace Go.Proofs.Ytcmpldjoggeceaa.T.Fm
open Go Go.Ab
theorem recB_len (b : List Int) : (recB b).length = b.length + 6 := by simp [recB, hd2, low4]
theorem hdN_rec {b : List Int} (hl : b.length ≤ 400) (rest : List Int) : hdN (recB b ++ rest) = b.length := by
  have e : recB b ++ rest = IntKind.u8.wrap (ishr .i64 b.length 8) :: IntKind.u8.wrap b.length :: (b ++ low4 (crcL (hd2 b.length ++ b)) ++ rest) := by simp [recB, hd2]
  have hs : ishr .i64 (b.length : Int) 8 = (b.length : Int) / 256 := by
    simp only [ishr, IntKind.bits]
    simp
    exact (Int.fdiv_eq_ediv_of_nonneg _ (by omega)).trans rfl
  unfold hdN
  rw [e]
  simp only [List.getD_cons_zero, List.getD_cons_succ]
  rw [hs, wrap_u8, wrap_u8]
  omega
theorem nxt_rec {b : List Int} (hl : b.length ≤ 400) (rest : List Int) : nxt (recB b ++ rest) = (b, b.length + 6, 0) := by
  unfold nxt
  rw [hdN_rec hl]
  have hlen : (recB b ++ rest).length = b.length + 6 + rest.length := by simp [recB_len]
  have hh : (hd2 b.length).length = 2 := rfl
  rw [if_neg (by omega), if_neg (by omega), if_neg (by omega)]
  have e1 : (recB b ++ rest).take (b.length + 2) = hd2 b.length ++ b := by
    unfold recB
    rw [List.append_assoc, List.take_left' (by simp [hh]; omega)]
  have e2 : ((recB b ++ rest).drop (b.length + 2)).take 4 = low4 (crcL (hd2 b.length ++ b)) := by
    unfold recB
    rw [List.append_assoc, List.drop_left' (by simp [hh]; omega)]
    exact List.take_left' rfl
  have e3 : ((recB b ++ rest).drop 2).take b.length = b := by
    unfold recB
    rw [List.append_assoc, List.append_assoc, List.drop_left' hh, List.take_left' rfl]
  rw [e1, e2, if_pos rfl, e3]
theorem recB_byt {b : List Int} (hB : Byt b) : Byt (recB b) := by
  unfold recB
  exact ((byt_cons (wrap_u8_in _) (byt_cons (wrap_u8_in _) byt_nil)).app hB).app (low4_byt _)
/-- All records, one behind the other. -/
def conc (ls : List (List Int)) : List Int := (ls.map recB).flatten
theorem conc_take {ls : List (List Int)} {i : Nat} (hi : i < ls.length) : conc (ls.take (i + 1)) = conc (ls.take i) ++ recB (ls.getD i []) := by
  unfold conc
  rw [List.take_succ_eq_append_getElem hi, List.map_append, List.flatten_append]
  congr 1
  simp [hi]
theorem conc_len {ls : List (List Int)} : ∀ i, (∀ j, j < ls.length → (ls.getD j []).length ≤ 400) → i ≤ ls.length → (conc (ls.take i)).length ≤ 406 * i
  | 0, _, _ => by simp [conc]
  | i + 1, h, hi => by
    rw [conc_take (by omega), List.length_append, recB_len]
    have := conc_len i h (by omega)
    have := h i (by omega)
    omega
theorem conc_byt {ls : List (List Int)} (h : ∀ b ∈ ls, Byt b) : Byt (conc ls) := fun x hx => by
  unfold conc at hx
  obtain ⟨l, h1, h2⟩ := List.mem_flatten.1 hx
  obtain ⟨b, h3, rfl⟩ := List.mem_map.1 h1
  exact recB_byt (h b h3) x h2
theorem conc_app (a b : List (List Int)) : conc (a ++ b) = conc a ++ conc b := by simp [conc]
theorem conc_drop {ls : List (List Int)} (j : Nat) : (conc ls).drop (conc (ls.take j)).length = conc (ls.drop j) := by
  conv => lhs; rw [← List.take_append_drop j ls, conc_app]
  rw [List.take_append_drop]
  rw [List.drop_left' rfl]
theorem conc_cons {ls : List (List Int)} {j : Nat} (hj : j < ls.length) : conc (ls.drop j) = recB (ls.getD j []) ++ conc (ls.drop (j + 1)) := by
  rw [List.drop_eq_getElem_cons hj]
  unfold conc
  rw [List.map_cons, List.flatten_cons]
  simp [hj]
section
variable {ls : List (List Int)} (hf : ∀ i, i < ls.length → (ls.getD i []).length ≤ 400)
include hf
theorem conc_pos : ∀ j, j ≤ ls.length → pos (conc ls) j = (conc (ls.take j)).length
  | 0, _ => by simp [pos, conc]
  | j + 1, hj => by
    simp only [pos]
    rw [conc_pos j (by omega), conc_drop, conc_cons (by omega), nxt_rec (hf j (by omega)), conc_take (by omega), List.length_append, recB_len]
theorem conc_nxt {j : Nat} (hj : j < ls.length) : nxt ((conc ls).drop (pos (conc ls) j)) = (ls.getD j [], (ls.getD j []).length + 6, 0) := by
  rw [conc_pos hf j (by omega), conc_drop, conc_cons hj, nxt_rec (hf j hj)]
theorem conc_nrec : nrec (conc ls) = ls.length := by
  rcases Nat.lt_trichotomy (nrec (conc ls)) ls.length with h | h | h
  · have := nrec_no (conc ls)
    simp [okAt, conc_nxt hf h] at this
  · exact h
  · have := nrec_ok h
    rw [okAt, conc_pos hf _ (Nat.le_refl _), conc_drop] at this
    simp [conc, nxt] at this
theorem conc_rcd {j : Nat} (hj : j < ls.length) : rcd (conc ls) j = ls.getD j [] := by unfold rcd; rw [conc_nxt hf hj]
theorem conc_end : pos (conc ls) (nrec (conc ls)) = (conc ls).length := by rw [conc_nrec hf, conc_pos hf _ (Nat.le_refl _), List.take_length]
end
theorem nxt_cut {b : List Int} (hl : b.length ≤ 400) (rest : List Int) {m : Nat} (hm : m < b.length + 6) : nxt ((recB b ++ rest).take m) = ([], 0, 12) := by
  have hlen : (recB b ++ rest).length = b.length + 6 + rest.length := by simp [recB_len]
  unfold nxt
  by_cases h2 : m < 2
  · rw [if_pos (by rw [List.length_take]; omega)]
  · rw [if_neg (by rw [List.length_take]; omega)]
    have hh : hdN ((recB b ++ rest).take m) = b.length := by
      rw [← hdN_rec hl rest]
      unfold hdN
      simp only [List.getD_eq_getElem?_getD]
      rw [List.getElem?_take_of_lt (by omega), List.getElem?_take_of_lt (by omega)]
    rw [hh, if_neg (by omega), if_pos (by rw [List.length_take]; omega)]
theorem nxt_keep {b : List Int} (hl : b.length ≤ 400) (rest : List Int) {m : Nat} (hm : b.length + 6 ≤ m) : nxt ((recB b ++ rest).take m) = (b, b.length + 6, 0) := by
  rw [List.take_append, List.take_of_length_le (by rw [recB_len]; omega), nxt_rec hl]
section
variable {ls : List (List Int)} (hf : ∀ i, i < ls.length → (ls.getD i []).length ≤ 400) {n k : Nat} (hk : k ≤ ls.length) (h1 : (conc (ls.take k)).length ≤ n)
include hf hk h1
theorem torn_pos : ∀ j, j ≤ k → pos ((conc ls).take n) j = (conc (ls.take j)).length
  | 0, _ => by simp [pos, conc]
  | j + 1, hj => by
    have hmono : (conc (ls.take (j + 1))).length ≤ (conc (ls.take k)).length := by
      have : ls.take k = ls.take (j + 1) ++ (ls.take k).drop (j + 1) := by
        conv => lhs; rw [← List.take_append_drop (j + 1) (ls.take k)]
        rw [List.take_take, Nat.min_eq_left hj]
      rw [this, conc_app, List.length_append]
      omega
    have hs := conc_take (ls := ls) (i := j) (by omega)
    have hl := congrArg List.length hs
    rw [List.length_append, recB_len] at hl
    simp only [pos]
    rw [torn_pos j (by omega), List.drop_take, conc_drop, conc_cons (by omega), nxt_keep (hf j (by omega)) _ (by omega)]
    rw [hl]
theorem torn_ok {j : Nat} (hj : j < k) : okAt ((conc ls).take n) j = true := by
  have hmono : (conc (ls.take (j + 1))).length ≤ (conc (ls.take k)).length := by
    have : ls.take k = ls.take (j + 1) ++ (ls.take k).drop (j + 1) := by
      conv => lhs; rw [← List.take_append_drop (j + 1) (ls.take k)]
      rw [List.take_take, Nat.min_eq_left hj]
    rw [this, conc_app, List.length_append]
    omega
  have hl := congrArg List.length (conc_take (ls := ls) (i := j) (by omega))
  rw [List.length_append, recB_len] at hl
  unfold okAt
  rw [torn_pos hf hk h1 j (by omega), List.drop_take, conc_drop, conc_cons (by omega), nxt_keep (hf j (by omega)) _ (by omega)]
  rfl
theorem torn_nxt (h2 : n ≤ (conc ls).length) (h3 : k = ls.length ∨ n < (conc (ls.take (k + 1))).length) : nxt (((conc ls).take n).drop (conc (ls.take k)).length) = ([], 0, 12) := by
  rw [List.drop_take, conc_drop]
  rcases h3 with h3 | h3
  · subst h3
    simp [conc, nxt]
  · by_cases hkl : k < ls.length
    · have hl := congrArg List.length (conc_take (ls := ls) (i := k) hkl)
      rw [List.length_append, recB_len] at hl
      rw [conc_cons hkl, nxt_cut (hf k hkl) _ (by omega)]
    · have : k = ls.length := by omega
      subst this
      simp [conc, nxt]
theorem torn_nrec (h2 : n ≤ (conc ls).length) (h3 : k = ls.length ∨ n < (conc (ls.take (k + 1))).length) : nrec ((conc ls).take n) = k := by
  rcases Nat.lt_trichotomy (nrec ((conc ls).take n)) k with h | h | h
  · have := nrec_no ((conc ls).take n)
    rw [torn_ok hf hk h1 h] at this
    cases this
  · exact h
  · have := nrec_ok h
    rw [okAt, torn_pos hf hk h1 k (Nat.le_refl _), torn_nxt hf hk h1 h2 h3] at this
    simp at this
end
end Go.Proofs.Ytcmpldjoggeceaa.T.Fm
end
section
/-! Tapes: the program's. -/
set_option linter.unusedVariables false
set_option linter.unusedSimpArgs false
set_option maxHeartbeats 4000000
set_option maxRecDepth 100000
namespace Go.Proofs.Ytcmpldjoggeceaa.T.Tp
open Go Go.Ab
structure TS where
  bs : List Int
  room : Int
  armed : Bool
  down : Bool
  writes : Int
  keep : Int
def tcells (v : AV) (t : TS) : List AV := [v, .int .i64 t.room, .bool t.armed, .bool t.down, .int .i64 t.writes, .int .i64 t.keep]
def rcells (v : AV) (t : TS) : List AV := [v, .int .i64 t.room, .bool t.armed, .int .i64 t.writes, .int .i64 t.keep, .bool t.down]
/-- A tape in memory: the program's (false), the document's (true). -/
def cellsOf (ref : Bool) (v : AV) (t : TS) : List AV := if ref then rcells v t else tcells v t
structure At (ref : Bool) (H : AH) (p : Nat) (v : AV) (t : TS) : Prop where
  row : H[p]? = some (.cells (cellsOf ref v t) .rw)
  mine : Mine H 1 v (u8s t.bs)
  ne : p ∉ blk v
  small : (t.bs.length : Int) ≤ t.room
  top : t.room ≤ 1048576
  bound : t.writes ≤ 9223372036854775807
/-- Behind something that was done to a tape. -/
def Step (ref : Bool) (H : AH) (p : Nat) (v : AV) (t' : TS) (H' : AH) : Prop := ∃ v', At ref H' p v' t' ∧ Chg (p :: blk v) H H' ∧ ∀ b ∈ blk v', b ∈ blk v ∨ H.length ≤ b
def lastT (t : TS) : Bool × TS := if t.armed then (if 0 < t.writes then (false, { t with writes := t.writes - 1 }) else (true, { t with armed := false, down := true })) else (false, t)
def cl (keep : Int) (n : Nat) : Nat := (min (max keep 0) n).toNat
def appT (t : TS) (xs : List Int) : Int × TS :=
  if t.down then (15, t) else if t.room < t.bs.length + xs.length then (14, t) else
  if (lastT t).1 then (15, { (lastT t).2 with bs := t.bs ++ xs.take (cl t.keep xs.length) }) else (0, { (lastT t).2 with bs := t.bs ++ xs })
def cutT (t : TS) (n : Int) : Int × TS :=
  if t.down then (15, t) else if n < 0 ∨ t.bs.length < n then (1, t) else
  if (lastT t).1 then (15, if 0 < t.keep then { (lastT t).2 with bs := t.bs.take n.toNat } else (lastT t).2) else (0, { (lastT t).2 with bs := t.bs.take n.toNat })
def armT (t : TS) (w k : Int) : TS := if t.down then t else { t with armed := decide (0 ≤ w), writes := w, keep := k }
def wakeT (t : TS) : TS := { t with armed := false, down := false }
theorem cl_eq (keep : Int) (n : Nat) : (if (n : Int) < (if keep < 0 then 0 else keep) then (n : Int) else if keep < 0 then 0 else keep) = (cl keep n : Int) := by
  unfold cl
  split <;> split <;> omega
theorem cl_le (keep : Int) (n : Nat) : cl keep n ≤ n := by unfold cl; omega
theorem lastT_bs (t : TS) : (lastT t).2.bs = t.bs ∧ (lastT t).2.room = t.room ∧ (lastT t).2.keep = t.keep := by
  unfold lastT
  split
  · split <;> exact ⟨rfl, rfl, rfl⟩
  · exact ⟨rfl, rfl, rfl⟩
section
variable {ref : Bool} {H H' : AH} {p : Nat} {v : AV} {t t' : TS} {F : List Nat}
theorem At.chg (h : At ref H p v t) (c : Chg F H H') (h1 : p ∉ F) (h2 : ∀ i ∈ blk v, i ∉ F) : At ref H' p v t := ⟨c.get h.row h1, h.mine.chg c h2, h.ne, h.small, h.top, h.bound⟩
theorem At.keep (h : At ref H p v t) (c : Chg [] H H') : At ref H' p v t := h.chg c (by simp) (by simp)
theorem At.form (h : At ref H p v t) : ∃ a c s, v = .slice a t.bs.length c s := h.mine.sl.len8
theorem At.lt (h : At ref H p v t) : p < H.length := lt_of_get h.row
/-- The tape's cells are turned, its bytes not. -/
theorem At.turn (h : At ref H p v t) (hb : t'.bs = t.bs) (hr : t'.room = t.room) (hw : t'.writes ≤ 9223372036854775807) : At ref (H.set p (.cells (cellsOf ref v t') .rw)) p v t' :=
  ⟨List.getElem?_set_self h.lt, by rw [hb]; exact h.mine.chg (.set _ _ _) (fun i hi => by simp; exact fun e => h.ne (e ▸ hi)), h.ne, by rw [hb, hr]; exact h.small, by rw [hr]; exact h.top, hw⟩
theorem Step.refl (h : At ref H p v t) (c : Chg [] H H') : Step ref H p v t H' := ⟨v, h.keep c, c.nil, fun b hb => .inl hb⟩
theorem Step.turn {H1 : AH} (h : At ref H p v t) (c : Chg [] H H1) (hb : t'.bs = t.bs) (hr : t'.room = t.room) (hw : t'.writes ≤ 9223372036854775807) (e : H' = H1.set p (.cells (cellsOf ref v t') .rw)) : Step ref H p v t' H' :=
  ⟨v, by subst e; exact (h.keep c).turn hb hr hw, by subst e; exact c.nil.trans (Chg.set _ _ _) (by simp), fun b hb => .inl hb⟩
end
theorem Step.put {ref : Bool} {H H3 H4 H' : AH} {p : Nat} {v v3 : AV} {t3 t' : TS} (h3 : At ref H3 p v t3) (c3 : Chg [p] H H3) (c4 : Chg (blk v) H3 H4) (m : Mine H4 1 v3 (u8s t'.bs)) (k : ∀ b ∈ blk v3, b ∈ blk v ∨ H3.length ≤ b)
    (h1 : (t'.bs.length : Int) ≤ t'.room) (h2 : t'.room ≤ 1048576) (h4 : t'.writes ≤ 9223372036854775807) (e : H' = H4.set p (.cells (cellsOf ref v3 t') .rw)) : Step ref H p v t' H' := by
  subst e
  have hp := c4.get h3.row h3.ne
  have hne : p ∉ blk v3 := fun hb => by
    rcases k p hb with hb | hb
    · exact h3.ne hb
    · have := h3.lt; omega
  refine ⟨v3, ⟨List.getElem?_set_self (lt_of_get hp), m.chg (.set _ _ _) (fun i hi => by simp; exact fun e => hne (e ▸ hi)), hne, h1, h2, h4⟩, ?_, fun b hb => ?_⟩
  · exact ((c3.mono (by simp)).trans c4 (fun i hi => .inl (by simp [hi]))).trans (.set _ _ _) (by simp)
  · rcases k b hb with hb | hb
    · exact .inl hb
    · exact .inr (Nat.le_trans c3.1 hb)
/-! no tape -/
section
variable {k lo : Nat} {H : AH}
theorem read_nil : callA ap (k + 1) (.func 16 [] []) [.ptr none] lo H = some (.tuple [.slice none 0 (some 0) 0, .int .i64 3], H) := by
  rw [← Hx_eq, hx_go fn16 rfl, b16]; simp [f16, b16, eqV]
theorem arm_nil {w x : AV} : callA ap (k + 1) (.func 22 [] []) [.ptr none, w, x] lo H = some (.tuple [], H) := by
  rw [← Hx_eq, hx_go fn22 rfl, b22]; simp [f22, b22, eqV]
theorem wake_nil : callA ap (k + 1) (.func 24 [] []) [.ptr none] lo H = some (.tuple [], H) := by
  rw [← Hx_eq, hx_go fn24 rfl, b24]; simp [f24, b24, eqV]
theorem append_nil {x : AV} : callA ap (k + 1) (.func 32 [] []) [.ptr none, x] lo H = some (.int .i64 3, H) := by
  rw [← Hx_eq, hx_go fn32 rfl, b32]; simp [f32, b32, eqV]
theorem cut_nil {x : AV} : callA ap (k + 1) (.func 21 [] []) [.ptr none, x] lo H = some (.int .i64 3, H) := by
  rw [← Hx_eq, hx_go fn21 rfl, b21]; simp [f21, b21, eqV]
theorem len_nil : callA ap (k + 1) (.func 20 [] []) [.ptr none] lo H = some (.int .i64 0, H) := by
  rw [← Hx_eq, hx_go fn20 rfl, b20]; simp [f20, b20, eqV]
theorem down_nil : callA ap (k + 1) (.func 23 [] []) [.ptr none] lo H = some (.bool false, H) := by
  rw [← Hx_eq, hx_go fn23 rfl, b23]; simp [f23, b23, eqV]
theorem copy_nil : callA ap (k + 1) (.func 63 [] []) [.ptr none] lo H = some (.ptr none, H) := by
  rw [← Hx_eq, hx_go fn63 rfl, b63]; simp [f63, b63, eqV]
end
/-! what a tape tells -/
section
variable {k lo : Nat} {H : AH} {p : Nat} {v : AV} {t : TS}
theorem len_ok (h : At false H p v t) : callA ap (k + 1) (.func 20 [] []) [.ptr (some (p, 0))] lo H = some (.int .i64 t.bs.length, H) := by
  obtain ⟨a, c, s, rfl⟩ := h.form
  rw [← Hx_eq, hx_go fn20 rfl, b20]; simp [f20, b20, eqV, rowOf_rw h.row, cellsOf, tcells]
theorem down_ok (h : At false H p v t) : callA ap (k + 1) (.func 23 [] []) [.ptr (some (p, 0))] lo H = some (.bool t.down, H) := by
  rw [← Hx_eq, hx_go fn23 rfl, b23]; simp [f23, b23, eqV, rowOf_rw h.row, cellsOf, tcells]
theorem arm_ok (h : At false H p v t) {w x : Int} (hw : w ≤ 9223372036854775807) : Hx (callA ap (k + 1) (.func 22 [] []) [.ptr (some (p, 0)), .int .i64 w, .int .i64 x] 0 H) fun r => r.1 = .tuple [] ∧ Step false H p v (armT t w x) r.2 := by
  rw [hx_go fn22 rfl, b22]
  cases hd : t.down with
  | true =>
    simp [f22, b22, eqV, rowOf_rw h.row, cellsOf, tcells, hd, armT]
    exact .refl h .refl
  | false =>
    simp [f22, b22, eqV, rowOf_rw h.row, rowRw_rw h.row, rowRw_self h.lt, cellsOf, tcells, hd, armT]
    exact .turn h .refl rfl rfl hw rfl
theorem wake_ok (h : At false H p v t) : Hx (callA ap (k + 1) (.func 24 [] []) [.ptr (some (p, 0))] 0 H) fun r => r.1 = .tuple [] ∧ Step false H p v (wakeT t) r.2 := by
  rw [hx_go fn24 rfl, b24]
  simp [f24, b24, eqV, rowOf_rw h.row, rowRw_rw h.row, rowRw_self h.lt, cellsOf, tcells, wakeT]
  exact .turn h .refl rfl rfl h.bound rfl
theorem last_ok (h : At false H p v t) : Hx (callA ap (k + 1) (.func 48 [] []) [.ptr (some (p, 0))] 0 H) fun r => r.1 = .bool (lastT t).1 ∧ At false r.2 p v (lastT t).2 ∧ Chg [p] H r.2 := by
  rw [hx_go fn48 rfl, b48]
  cases ha : t.armed with
  | false =>
    simp [f48, b48, eqV, rowOf_rw h.row, cellsOf, tcells, ha, lastT]
    exact ⟨h, .refl⟩
  | true =>
    by_cases hw : 0 < t.writes
    · have hw1 : IntKind.i64.wrap (t.writes - 1) = t.writes - 1 := wrap_i64 (by omega) (by have := h.bound; omega)
      simp [f48, b48, eqV, rowOf_rw h.row, rowRw_rw h.row, cellsOf, tcells, ha, lastT, hw, hw1]
      exact ⟨h.turn (t' := { t with armed := true, writes := t.writes - 1 }) rfl rfl (by have := h.bound; simp only; omega), .set _ _ _⟩
    · simp [f48, b48, eqV, rowOf_rw h.row, rowRw_rw h.row, rowRw_self h.lt, cellsOf, tcells, ha, lastT, hw]
      exact ⟨h.turn (t' := { t with armed := false, down := true }) rfl rfl h.bound, .set _ _ _⟩
/-! what is done to a tape -/
theorem clone_ok {x : AV} {bs : List Int} (h : B8 H x bs) (hl : bs.length ≤ 100000000000000) :
    Hx (callA ap (k + 1) (.func 46 [] []) [x] 0 H) fun r => Chg [] H r.2 ∧ Mine r.2 1 r.1 (u8s bs) ∧ ∀ i ∈ blk r.1, H.length ≤ i := by
  rw [hx_go fn46 rfl, b46]
  obtain ⟨a, c, s, rfl⟩ := h.len8
  cases a with
  | none =>
    simp [f46, b46, eqV]
    refine ⟨.refl, ?_⟩
    generalize hn : bs.length = n at h
    have : bs = [] := by
      have g := h.bs
      cases g
      rfl
    subst this
    exact .nil _ _
  | some p =>
    have ow : Mine (H ++ [.cells [] .rw]) 1 (.slice (some (H.length, 0)) 0 (some 0) 1) [] := Mine.new (l := []) (n := 0) (c := some 0) Nat.one_pos rfl (by simp) (by simp)
    simp [f46, b46, eqV]
    refine Hx.mapp (ow.append (h.keep (.app _ _)) Nat.one_pos Nat.one_pos u8s_one (by simp [room]; omega)) ?_
    rintro ⟨v6, H6⟩ ⟨o6, c6, k6⟩
    simp
    refine ⟨(Chg.app H _).trans c6 (by simp), by simpa using o6, fun i hi => ?_⟩
    rcases k6 i hi with hi | hi
    · simp at hi; omega
    · simp at hi; omega
theorem read_ok (h : At false H p v t) : Hx (callA ap (k + 2) (.func 16 [] []) [.ptr (some (p, 0))] 0 H) fun r => Chg [] H r.2 ∧ ∃ x, r.1 = .tuple [x, .int .i64 (if t.down then 15 else 0)] ∧ Mine r.2 1 x (u8s (if t.down then [] else t.bs)) ∧ ∀ i ∈ blk x, H.length ≤ i := by
  rw [hx_go fn16 rfl, b16]
  have := h.small
  have := h.top
  cases hd : t.down with
  | true =>
    simp [f16, b16, eqV, rowOf_rw h.row, cellsOf, tcells, hd]
    exact ⟨.refl, .nil _ _⟩
  | false =>
    simp [f16, b16, eqV, rowOf_rw h.row, cellsOf, tcells, hd]
    refine Hx.mapp (clone_ok h.mine.sl (by omega)) ?_
    rintro ⟨x, H1⟩ ⟨c1, s1, f1⟩
    simp
    exact ⟨c1, s1, f1⟩
theorem copy_ok (h : At false H p v t) : Hx (callA ap (k + 2) (.func 63 [] []) [.ptr (some (p, 0))] 0 H) fun r => r.1 = .ptr (some (H.length, 0)) ∧ Chg [] H r.2 ∧ ∃ v', At false r.2 H.length v' t ∧ ∀ i ∈ blk v', H.length < i := by
  rw [hx_go fn63 rfl, b63]
  have := h.small
  have := h.top
  obtain ⟨a, c, s, rfl⟩ := h.form
  have c1 : Chg [] H (H ++ [.cells (tcells (.slice a t.bs.length c s) t) .rw]) := .app _ _
  have c0 : Chg [] H (H ++ [.cells [.slice none 0 (some 0) 0, .int .i64 0, .bool false, .bool false, .int .i64 0, .int .i64 0] .rw]) := .app _ _
  have g : (H ++ [.cells (tcells (.slice a t.bs.length c s) t) .rw])[p]? = some (.cells (tcells (.slice a t.bs.length c s) t) .rw) := c1.get h.row (by simp)
  simp only [tcells] at g c1
  simp [f63, b63, eqV, rowOf_rw h.row, cellsOf, tcells, rowRw]
  simp [rowOf_rw g]
  refine Hx.mapp (clone_ok (h.mine.sl.keep c1) (by omega)) ?_
  rintro ⟨x, H1⟩ ⟨c2, s1, f1⟩
  simp only at c2 s1 f1
  obtain ⟨ax, cx, sx, rfl⟩ := s1.sl.len8
  have g1 : H1[H.length]? = some (.cells [.slice a t.bs.length c s, .int .i64 t.room, .bool t.armed, .bool t.down, .int .i64 t.writes, .int .i64 t.keep] .rw) := c2.get (by simp) (by simp)
  simp [rowRw_rw g1]
  simp at f1
  refine ⟨(c1.tr c2).trans (.set _ _ _) (by simp), ?_⟩
  refine ⟨.slice ax t.bs.length cx sx, ⟨by rw [List.getElem?_set_self (lt_of_get g1)]; rfl, s1.chg (.set _ _ _) (fun i hi => by have := f1 i hi; simp; omega), fun hi => by have := f1 _ hi; omega, h.small, h.top, h.bound⟩, fun i hi => by have := f1 i hi; omega⟩
theorem append_ok (h : At false H p v t) {x : AV} {xs : List Int} (hx : B8 H x xs) (hxp : p ∉ blk x) (hl : xs.length ≤ 100000) :
    Hx (callA ap (k + 2) (.func 32 [] []) [.ptr (some (p, 0)), x] 0 H) fun r => r.1 = .int .i64 (appT t xs).1 ∧ Step false H p v (appT t xs).2 r.2 := by
  rw [hx_go fn32 rfl, b32]
  have h1 := h.small
  have h2 := h.top
  obtain ⟨a, c, s, rfl⟩ := h.form
  obtain ⟨ax, cx, sx, rfl⟩ := hx.len8
  cases hd : t.down with
  | true =>
    simp [f32, b32, eqV, rowOf_rw h.row, cellsOf, tcells, hd, appT]
    exact .refl h .refl
  | false =>
    have w1 : IntKind.i64.wrap ((t.bs.length : Int) + (xs.length : Int)) = (t.bs.length : Int) + (xs.length : Int) := wrap_i64 (by omega) (by omega)
    simp [f32, b32, eqV, rowOf_rw h.row, cellsOf, tcells, hd]
    refine hx_drawn dc32_5 fun H1 c1 _ _ => ?_
    have h' := h.keep c1
    by_cases hr : t.room < t.bs.length + xs.length
    · simp [d32_5, rowOf_rw h'.row, cellsOf, tcells, w1, hr, appT, hd]
      exact .refl h c1
    simp [d32_5, rowOf_rw h'.row, cellsOf, tcells, w1, hr, hd]
    refine Hx.mapp (last_ok h') ?_
    rintro ⟨r, H2⟩ ⟨rfl, g2, c2⟩
    simp only at g2 c2
    have hx2 := (hx.keep c1).chg c2 (fun i hi => by simp; exact fun e => hxp (e ▸ hi))
    obtain ⟨lb, lr, lk⟩ := lastT_bs t
    cases hl1 : (lastT t).1 with
    | false =>
      simp [rowOf_rw g2.row, cellsOf, tcells]
      have m2 := g2.mine
      rw [lb] at m2
      refine Hx.mapp (m2.append hx2 Nat.one_pos Nat.one_pos u8s_one (by simp [room]; omega)) ?_
      rintro ⟨v4, H4⟩ ⟨m4, c4, k4⟩
      simp only at m4 c4 k4
      have g4 := c4.get g2.row g2.ne
      have one : AV.one v4 = true ∧ ∃ a n c s, v4 = .slice a n c s := by obtain ⟨a, n, c, s, rfl, _⟩ := m4.sl.form; exact ⟨rfl, _, _, _, _, rfl⟩
      obtain ⟨one, a4, n4, c4', s4, rfl⟩ := one
      simp [rowRw_rw g4, cellsOf, tcells, one, appT, hd, hr, hl1]
      refine .put g2 ((c1.nil).tr' c2) c4 (t' := { (lastT t).2 with bs := t.bs ++ xs }) (by rw [u8s_app]; exact m4) k4 ?_ (by simp only [lr]; exact h2) g2.bound rfl
      simp only [List.length_append, lr]
      omega
    | true =>
      simp
      refine hx_drawn dc32_8 fun H3 c3 _ _ => ?_
      have g3 := g2.keep c3
      have hx3 := hx2.keep c3
      have hcl := cl_eq t.keep xs.length
      obtain ⟨v4, a4, s4, k4, _⟩ := hx3.cut8 (low := none) (high := some (.int .i64 (cl t.keep xs.length))) (lo := 0) (hi := cl t.keep xs.length) (Nat.zero_le _) (cl_le _ _) (by simp [lowIs]) (by simp [highIs])
      rw [List.drop_zero] at s4
      simp [d32_8, rowOf_rw g3.row, cellsOf, tcells, amm, amm1, lk, hcl, a4]
      have m3 := g3.mine
      rw [lb] at m3
      have hle := cl_le t.keep xs.length
      refine Hx.mapp (m3.append s4 Nat.one_pos Nat.one_pos u8s_one (by simp [room]; omega)) ?_
      rintro ⟨v5, H5⟩ ⟨m5, c5, k5⟩
      simp only at m5 c5 k5
      have g5 := c5.get g3.row g3.ne
      have one : AV.one v5 = true ∧ ∃ a n c s, v5 = .slice a n c s := by obtain ⟨a, n, c, s, rfl, _⟩ := m5.sl.form; exact ⟨rfl, _, _, _, _, rfl⟩
      obtain ⟨one, a6, n6, c6, s6, rfl⟩ := one
      simp [rowRw_rw g5, cellsOf, tcells, one, appT, hd, hr, hl1]
      refine .put g3 ((c1.nil.tr' c2).tr c3) c5 (t' := { (lastT t).2 with bs := t.bs ++ xs.take (cl t.keep xs.length) }) (by rw [u8s_app]; exact m5) k5 ?_ (by simp only [lr]; exact h2) g3.bound (by simp [cellsOf, tcells, lk])
      simp only [List.length_append, List.length_take, lr]
      omega
theorem cut_ok (h : At false H p v t) {n : Int} : Hx (callA ap (k + 2) (.func 21 [] []) [.ptr (some (p, 0)), .int .i64 n] 0 H) fun r => r.1 = .int .i64 (cutT t n).1 ∧ Step false H p v (cutT t n).2 r.2 := by
  rw [hx_go fn21 rfl, b21]
  have h1 := h.small
  have h2 := h.top
  obtain ⟨a, c, s, rfl⟩ := h.form
  cases hd : t.down with
  | true =>
    simp [f21, b21, eqV, rowOf_rw h.row, cellsOf, tcells, hd, cutT]
    exact .refl h .refl
  | false =>
    by_cases hn : n < 0
    · simp [f21, b21, eqV, rowOf_rw h.row, cellsOf, tcells, hd, hn, cutT]
      exact .refl h .refl
    by_cases hn2 : t.bs.length < n
    · simp [f21, b21, eqV, rowOf_rw h.row, cellsOf, tcells, hd, hn, hn2, cutT]
      exact .refl h .refl
    obtain ⟨m, rfl⟩ := Int.eq_ofNat_of_zero_le (by omega : 0 ≤ n)
    have hm : m ≤ t.bs.length := by omega
    have hm' : ¬ t.bs.length < m := by omega
    have hn' : ¬ (m : Int) < 0 := by omega
    simp [f21, b21, eqV, rowOf_rw h.row, cellsOf, tcells, hd, hm', hn']
    refine Hx.mapp (last_ok h) ?_
    rintro ⟨r, H2⟩ ⟨rfl, g2, c2⟩
    simp only at g2 c2
    obtain ⟨lb, lr, lk⟩ := lastT_bs t
    have m2 := g2.mine
    rw [lb] at m2
    obtain ⟨v4, a4, m4, k4⟩ := m2.cut8 (high := some (.int .i64 m)) hm (by simp [highIs])
    have one : AV.one v4 = true ∧ ∃ a n c s, v4 = .slice a n c s := by obtain ⟨a, n, c, s, rfl, _⟩ := m4.sl.form; exact ⟨rfl, _, _, _, _, rfl⟩
    obtain ⟨one, a6, n6, c6, s6, rfl⟩ := one
    have fin : ∀ {H'}, H' = H2.set p (.cells (cellsOf false (.slice a6 n6 c6 s6) { (lastT t).2 with bs := t.bs.take m }) .rw) → Step false H p (.slice a t.bs.length c s) { (lastT t).2 with bs := t.bs.take m } H' := fun e =>
      .put g2 c2 .refl (t' := { (lastT t).2 with bs := t.bs.take m }) m4 (fun b hb => .inl (k4 b hb)) (by simp only [List.length_take, lr]; omega) (by simp only [lr]; exact h2) g2.bound e
    cases hl1 : (lastT t).1 with
    | false =>
      simp [rowOf_rw g2.row, rowRw_rw g2.row, cellsOf, tcells, a4, one, cutT, hd, hm', hn', hl1]
      exact fin rfl
    | true =>
      by_cases hk : 0 < t.keep
      · simp [rowOf_rw g2.row, rowRw_rw g2.row, cellsOf, tcells, a4, one, cutT, hd, hm', hn', hl1, lk, hk]
        have q := fin rfl
        simp only [cellsOf, tcells, lk] at q
        exact q
      · simp [rowOf_rw g2.row, rowRw_rw g2.row, cellsOf, tcells, cutT, hd, hm', hn', hl1, lk, hk]
        exact ⟨_, g2, c2.mono (by simp), fun b hb => .inl hb⟩
/-- A new tape. -/
theorem new_ok {n : Int} : callA ap (k + 1) (.func 12 [] []) [.int .i64 n] lo H = some (.ptr (some (H.length, 0)), H ++ [.cells (tcells (.slice none 0 (some 0) 0) ⟨[], min (max n 0) 1048576, false, false, 0, 0⟩) .rw]) := by
  rw [← Hx_eq, hx_go fn12 rfl, b12]
  have : (if (1048576 : Int) < (if n < 0 then 0 else n) then (1048576 : Int) else if n < 0 then 0 else n) = min (max n 0) 1048576 := by split <;> split <;> omega
  simp [f12, b12, amm, amm1, this, tcells]
end
end Go.Proofs.Ytcmpldjoggeceaa.T.Tp
end
section
/-! Tapes: the document's. -/
set_option linter.unusedVariables false
set_option linter.unusedSimpArgs false
set_option maxHeartbeats 4000000
set_option maxRecDepth 100000
namespace Go.Proofs.Ytcmpldjoggeceaa.T.Tp
open Go Go.Ab
def armR (t : TS) (w k : Int) : TS := if t.down then t else { t with armed := decide (0 ≤ w), writes := max w 0, keep := k }
section
variable {k lo : Nat} {H : AH} {p : Nat} {v : AV} {t : TS}
theorem rnew_ok {n : Int} : callA ap (k + 1) (.func 25 [] []) [.int .i64 n] lo H = some (.ptr (some (H.length, 0)), H ++ [.cells (rcells (.slice none 0 (some 0) 0) ⟨[], min (max n 0) 1048576, false, false, 0, 0⟩) .rw]) := by
  rw [← Hx_eq, hx_go fn25 rfl, b25]
  have : (if (1048576 : Int) < (if n < 0 then 0 else n) then (1048576 : Int) else if n < 0 then 0 else n) = min (max n 0) 1048576 := by split <;> split <;> omega
  simp [f25, b25, amm, amm1, this, rcells]
theorem rarm_ok (h : At true H p v t) {w x : Int} (hw : w ≤ 9223372036854775807) : Hx (callA ap (k + 1) (.func 64 [] []) [.ptr (some (p, 0)), .int .i64 w, .int .i64 x] 0 H) fun r => r.1 = .tuple [] ∧ Step true H p v (armR t w x) r.2 := by
  rw [hx_go fn64 rfl, b64]
  cases hd : t.down with
  | true =>
    simp [f64, b64, eqV, rowOf_rw h.row, cellsOf, rcells, hd, armR]
    exact .refl h .refl
  | false =>
    have : (if w < 0 then 0 else w) = max w 0 := by split <;> omega
    simp [f64, b64, eqV, rowOf_rw h.row, rowRw_rw h.row, rowRw_self h.lt, cellsOf, rcells, hd, armR, amm, amm1, this]
    exact .turn h .refl rfl rfl (by simp only; omega) rfl
theorem rwake_ok (h : At true H p v t) : Hx (callA ap (k + 1) (.func 65 [] []) [.ptr (some (p, 0))] 0 H) fun r => r.1 = .tuple [] ∧ Step true H p v (wakeT t) r.2 := by
  rw [hx_go fn65 rfl, b65]
  simp [f65, b65, eqV, rowOf_rw h.row, rowRw_rw h.row, rowRw_self h.lt, cellsOf, rcells, wakeT]
  exact .turn h .refl rfl rfl h.bound rfl
theorem rlast_ok (h : At true H p v t) : Hx (callA ap (k + 1) (.func 58 [] []) [.ptr (some (p, 0))] 0 H) fun r => r.1 = .bool (lastT t).1 ∧ At true r.2 p v (lastT t).2 ∧ Chg [p] H r.2 := by
  rw [hx_go fn58 rfl, b58]
  cases ha : t.armed with
  | false =>
    simp [f58, b58, eqV, rowOf_rw h.row, cellsOf, rcells, ha, lastT]
    exact ⟨h, .refl⟩
  | true =>
    by_cases hw : 0 < t.writes
    · have hw1 : IntKind.i64.wrap (t.writes - 1) = t.writes - 1 := wrap_i64 (by omega) (by have := h.bound; omega)
      simp [f58, b58, eqV, rowOf_rw h.row, rowRw_rw h.row, cellsOf, rcells, ha, lastT, hw, hw1]
      exact ⟨h.turn (t' := { t with armed := true, writes := t.writes - 1 }) rfl rfl (by have := h.bound; simp only; omega), .set _ _ _⟩
    · simp [f58, b58, eqV, rowOf_rw h.row, rowRw_rw h.row, rowRw_self h.lt, cellsOf, rcells, ha, lastT, hw]
      exact ⟨h.turn (t' := { t with armed := false, down := true }) rfl rfl h.bound, .set _ _ _⟩
theorem rread_ok (h : At true H p v t) : Hx (callA ap (k + 2) (.func 59 [] []) [.ptr (some (p, 0))] 0 H) fun r => Chg [] H r.2 ∧ ∃ x, r.1 = .tuple [x, .int .i64 (if t.down then 15 else 0)] ∧ Mine r.2 1 x (u8s (if t.down then [] else t.bs)) ∧ ∀ i ∈ blk x, H.length ≤ i := by
  rw [hx_go fn59 rfl, b59]
  have := h.small
  have := h.top
  cases hd : t.down with
  | true =>
    simp [f59, b59, eqV, rowOf_rw h.row, cellsOf, rcells, hd]
    exact ⟨.refl, .nil _ _⟩
  | false =>
    have ow : Mine (H ++ [.cells [] .rw]) 1 (.slice (some (H.length, 0)) 0 (some 0) 1) [] := Mine.new (l := []) (n := 0) (c := some 0) Nat.one_pos rfl (by simp) (by simp)
    have h1 := h.keep (Chg.app H [.cells [] .rw])
    simp [f59, b59, eqV, rowOf_rw h.row, rowOf_rw h1.row, cellsOf, rcells, hd]
    refine Hx.mapp (ow.append h1.mine.sl Nat.one_pos Nat.one_pos u8s_one (by simp [room]; omega)) ?_
    rintro ⟨x, H2⟩ ⟨m2, c2, k2⟩
    simp
    refine ⟨(Chg.app H _).trans c2 (by simp), by simpa using m2, fun i hi => ?_⟩
    rcases k2 i hi with hi | hi
    · simp at hi; omega
    · simp at hi; omega
theorem rappend_ok (h : At true H p v t) {x : AV} {xs : List Int} (hx : B8 H x xs) (hxp : p ∉ blk x) (hl : xs.length ≤ 100000) :
    Hx (callA ap (k + 2) (.func 33 [] []) [.ptr (some (p, 0)), x] 0 H) fun r => r.1 = .int .i64 (appT t xs).1 ∧ Step true H p v (appT t xs).2 r.2 := by
  rw [hx_go fn33 rfl, b33]
  have h1 := h.small
  have h2 := h.top
  obtain ⟨a, c, s, rfl⟩ := h.form
  obtain ⟨ax, cx, sx, rfl⟩ := hx.len8
  cases hd : t.down with
  | true =>
    simp [f33, b33, eqV, rowOf_rw h.row, cellsOf, rcells, hd, appT]
    exact .refl h .refl
  | false =>
    have w1 : IntKind.i64.wrap (t.room - (t.bs.length : Int)) = t.room - (t.bs.length : Int) := wrap_i64 (by omega) (by omega)
    simp [f33, b33, eqV, rowOf_rw h.row, cellsOf, rcells, hd]
    refine hx_drawn dc33_3 fun H1 c1 _ _ => ?_
    have h' := h.keep c1
    by_cases hr : t.room < t.bs.length + xs.length
    · have hr' : t.room - (t.bs.length : Int) < xs.length := by omega
      simp [d33_3, rowOf_rw h'.row, cellsOf, rcells, w1, hr', appT, hd, hr]
      exact .refl h c1
    have hr' : ¬ t.room - (t.bs.length : Int) < xs.length := by omega
    simp [d33_3, rowOf_rw h'.row, cellsOf, rcells, w1, hr', hd]
    refine Hx.mapp (rlast_ok h') ?_
    rintro ⟨r, H2⟩ ⟨rfl, g2, c2⟩
    simp only at g2 c2
    have hx2 := (hx.keep c1).chg c2 (fun i hi => by simp; exact fun e => hxp (e ▸ hi))
    obtain ⟨lb, lr, lk⟩ := lastT_bs t
    have l2 := g2.lt
    cases hl1 : (lastT t).1 with
    | false =>
      have ow : Mine (H2 ++ [.cells [] .rw]) 1 (.slice (some (H2.length, 0)) 0 (some 0) 1) [] := Mine.new (l := []) (n := 0) (c := some 0) Nat.one_pos rfl (by simp) (by simp)
      have g2' := g2.keep (Chg.app H2 [.cells [] .rw])
      simp [rowOf_rw g2.row, rowOf_rw g2'.row, cellsOf, rcells]
      have m2 := g2'.mine
      rw [lb] at m2
      refine Hx.mapp (ow.append m2.sl Nat.one_pos Nat.one_pos u8s_one (by simp [room]; omega)) ?_
      rintro ⟨v4, H4⟩ ⟨m4, c4, k4⟩
      simp only at m4 c4 k4
      have c24 : Chg [] H2 H4 := (Chg.app H2 _).trans c4 (by simp)
      simp
      refine Hx.mapp (m4.append (hx2.keep c24) Nat.one_pos Nat.one_pos u8s_one (by simp [room]; omega)) ?_
      rintro ⟨v5, H5⟩ ⟨m5, c5, k5⟩
      simp only at m5 c5 k5
      have f4 : ∀ b ∈ blk v4, H2.length ≤ b := fun b hb => by
        rcases k4 b hb with hb | hb
        · simp at hb; omega
        · simp at hb; omega
      have c25 : Chg [] H2 H5 := c24.trans c5 (fun i hi => .inr (f4 i hi))
      have f5 : ∀ b ∈ blk v5, H2.length ≤ b := fun b hb => by
        rcases k5 b hb with hb | hb
        · exact f4 b hb
        · have := c24.1; omega
      have g5 := c25.get g2.row (by simp)
      have one : AV.one v5 = true ∧ ∃ a n c s, v5 = .slice a n c s := by obtain ⟨a, n, c, s, rfl, _⟩ := m5.sl.form; exact ⟨rfl, _, _, _, _, rfl⟩
      obtain ⟨one, a6, n6, c6, s6, rfl⟩ := one
      simp [rowRw_rw g5, cellsOf, rcells, one, appT, hd, hr, hl1]
      refine .put g2 (c1.nil.tr' c2) c25.nil (t' := { (lastT t).2 with bs := t.bs ++ xs }) (by rw [u8s_app]; exact m5) (fun b hb => .inr (f5 b hb)) ?_ (by simp only [lr]; exact h2) g2.bound rfl
      simp only [List.length_append, lr]
      omega
    | true =>
      simp
      refine hx_drawn dc33_6 fun H3 c3 hl3 hd3 => ?_
      have hcl := cl_eq t.keep xs.length
      have hle := cl_le t.keep xs.length
      have hd31 := hd3 1 (by simp [d33_6])
      have c3' : Chg [] H2 (H3.set (H2.length + 1) (.cells [] .rw)) := c3.trans (.set _ _ _) (by simp)
      have ow : Mine (H3.set (H2.length + 1) (.cells [] .rw)) 1 (.slice (some (H2.length + 1, 0)) 0 (some 0) 1) [] := .row _ 0 (some 0) [] _ Nat.one_pos (List.getElem?_set_self (lt_of_get hd31)) (by simp) (by simp) (by simp)
      simp [d33_6, hd31]
      generalize (H3.set (H2.length + 1) (.cells [] .rw)) = H4 at *
      have g4 := g2.keep c3'
      have m4 := g4.mine
      rw [lb] at m4
      obtain ⟨v4, a4, s4, k4, _⟩ := (hx2.keep c3').cut8 (low := none) (high := some (.int .i64 (cl t.keep xs.length))) (lo := 0) (hi := cl t.keep xs.length) (Nat.zero_le _) hle (by simp [lowIs]) (by simp [highIs])
      rw [List.drop_zero] at s4
      simp [rowOf_rw g4.row, cellsOf, rcells, amm, amm1, lk, hcl, a4]
      refine Hx.mapp (ow.append m4.sl Nat.one_pos Nat.one_pos u8s_one (by simp [room]; omega)) ?_
      rintro ⟨v5, H5⟩ ⟨m5, c5, k5⟩
      simp only at m5 c5 k5
      have f5 : ∀ b ∈ blk v5, H2.length ≤ b := fun b hb => by
        rcases k5 b hb with hb | hb
        · simp at hb; omega
        · have := c3'.1; omega
      have c25 : Chg [] H2 H5 := c3'.trans c5 (by simp)
      simp
      refine Hx.mapp (m5.append (s4.chg c5 (fun i hi => ?_)) Nat.one_pos Nat.one_pos u8s_one (by simp [room]; omega)) ?_
      · have := hx2.lt i (k4 i hi)
        simp; omega
      rintro ⟨v6, H6⟩ ⟨m6, c6, k6⟩
      simp only at m6 c6 k6
      have c26 : Chg [] H2 H6 := c25.trans c6 (fun i hi => .inr (f5 i hi))
      have f6 : ∀ b ∈ blk v6, H2.length ≤ b := fun b hb => by
        rcases k6 b hb with hb | hb
        · exact f5 b hb
        · have := c25.1; omega
      have g6 := c26.get g2.row (by simp)
      have one : AV.one v6 = true ∧ ∃ a n c s, v6 = .slice a n c s := by obtain ⟨a, n, c, s, rfl, _⟩ := m6.sl.form; exact ⟨rfl, _, _, _, _, rfl⟩
      obtain ⟨one, a7, n7, c7, s7, rfl⟩ := one
      have g5 := (g2.keep c25)
      have a5 := aslice_chg (F := blk (.slice (some (H2.length + 1, 0)) 0 (some 0) 1)) c5 (fun i hi => by have := hx2.lt i hi; simp; omega) a4
      simp [rowRw_rw g6, rowOf_rw g5.row, cellsOf, rcells, one, appT, hd, hr, hl1, a5, lk]
      have q := Step.put (H' := _) g2 (c1.nil.tr' c2) c26.nil (t' := { (lastT t).2 with bs := t.bs ++ xs.take (cl t.keep xs.length) }) (by rw [u8s_app]; exact m6) (fun b hb => .inr (f6 b hb)) (by simp only [List.length_append, List.length_take, lr]; omega) (by simp only [lr]; exact h2) g2.bound rfl
      simp only [cellsOf, rcells, lk, if_true] at q
      exact q
theorem rcut_ok (h : At true H p v t) {n : Int} : Hx (callA ap (k + 2) (.func 61 [] []) [.ptr (some (p, 0)), .int .i64 n] 0 H) fun r => r.1 = .int .i64 (cutT t n).1 ∧ Step true H p v (cutT t n).2 r.2 := by
  rw [hx_go fn61 rfl, b61]
  have h1 := h.small
  have h2 := h.top
  obtain ⟨a, c, s, rfl⟩ := h.form
  cases hd : t.down with
  | true =>
    simp [f61, b61, eqV, rowOf_rw h.row, cellsOf, rcells, hd, cutT]
    exact .refl h .refl
  | false =>
    by_cases hn : n < 0
    · simp [f61, b61, eqV, rowOf_rw h.row, cellsOf, rcells, hd, hn, cutT]
      exact .refl h .refl
    by_cases hn2 : t.bs.length < n
    · simp [f61, b61, eqV, rowOf_rw h.row, cellsOf, rcells, hd, hn, hn2, cutT]
      exact .refl h .refl
    obtain ⟨m, rfl⟩ := Int.eq_ofNat_of_zero_le (by omega : 0 ≤ n)
    have hm : m ≤ t.bs.length := by omega
    have hm' : ¬ t.bs.length < m := by omega
    have hn' : ¬ (m : Int) < 0 := by omega
    simp [f61, b61, eqV, rowOf_rw h.row, cellsOf, rcells, hd, hm', hn']
    refine Hx.mapp (rlast_ok h) ?_
    rintro ⟨r, H2⟩ ⟨rfl, g2, c2⟩
    simp only at g2 c2
    obtain ⟨lb, lr, lk⟩ := lastT_bs t
    have ow : Mine (H2 ++ [.cells [] .rw]) 1 (.slice (some (H2.length, 0)) 0 (some 0) 1) [] := Mine.new (l := []) (n := 0) (c := some 0) Nat.one_pos rfl (by simp) (by simp)
    have g3 := g2.keep (Chg.app H2 [.cells [] .rw])
    have m3 := g3.mine
    rw [lb] at m3
    obtain ⟨v4, a4, m4, k4⟩ := m3.cut8 (high := some (.int .i64 m)) hm (by simp [highIs])
    have key : Hx (aappend 0 (H2 ++ [.cells [] .rw]) 1 1 (.slice (some (H2.length, 0)) 0 (some 0) 1) v4) fun r => ∃ a6 n6 c6 s6, r.1 = .slice a6 n6 c6 s6 ∧ rowRw r.2 0 p = some (cellsOf true (.slice a t.bs.length c s) (lastT t).2) ∧
        Step true H p (.slice a t.bs.length c s) { (lastT t).2 with bs := t.bs.take m } (r.2.set p (.cells (cellsOf true (.slice a6 n6 c6 s6) { (lastT t).2 with bs := t.bs.take m }) .rw)) := by
      refine (ow.append m4.sl Nat.one_pos Nat.one_pos u8s_one (by simp [room]; omega)).mono ?_
      rintro ⟨v5, H5⟩ ⟨m5, c5, k5⟩
      simp only at m5 c5 k5
      rw [List.nil_append] at m5
      have l2 := g2.lt
      have c25 : Chg [] H2 H5 := (Chg.app H2 _).trans c5 (by simp)
      obtain ⟨a6, n6, c6, s6, rfl, _⟩ := m5.sl.form
      refine ⟨a6, n6, c6, s6, rfl, rowRw_rw (c25.get g2.row (by simp)), .put g2 c2 c25.nil (t' := { (lastT t).2 with bs := t.bs.take m }) m5 (fun b hb => .inr ?_) (by simp only [List.length_take, lr]; omega) (by simp only [lr]; exact h2) g2.bound rfl⟩
      rcases k5 b hb with hb | hb
      · simp at hb; omega
      · simp at hb; omega
    cases hl1 : (lastT t).1 with
    | false =>
      have gr := rowOf_rw g3.row
      simp only [cellsOf, rcells, if_true] at gr
      simp [rowOf_rw g2.row, gr, cellsOf, rcells, a4]
      refine Hx.mapp key ?_
      rintro ⟨v5, H5⟩ ⟨a6, n6, c6, s6, rfl, e1, e2⟩
      simp only [cellsOf, rcells, if_true] at e1 e2
      simp [e1, cutT, hd, hm', hn', hl1]
      exact e2
    | true =>
      by_cases hk : 0 < t.keep
      · have gr := rowOf_rw g3.row
        simp only [cellsOf, rcells, if_true, lk] at gr
        simp [rowOf_rw g2.row, gr, cellsOf, rcells, a4, lk, hk]
        refine Hx.mapp key ?_
        rintro ⟨v5, H5⟩ ⟨a6, n6, c6, s6, rfl, e1, e2⟩
        simp only [cellsOf, rcells, if_true, lk] at e1 e2
        simp [e1, cutT, hd, hm', hn', hl1, hk, lk]
        exact e2
      · simp [rowOf_rw g2.row, cellsOf, rcells, cutT, hd, hm', hn', hl1, lk, hk]
        exact ⟨_, g2, c2.mono (by simp), fun b hb => .inl hb⟩
end
end Go.Proofs.Ytcmpldjoggeceaa.T.Tp
end
section
/-! What is done to two tapes; are they alike? -/
set_option linter.unusedVariables false
set_option linter.unusedSimpArgs false
set_option maxHeartbeats 4000000
set_option maxRecDepth 100000
namespace Go.Proofs.Ytcmpldjoggeceaa.T.Tp
open Go Go.Ab
def eqT (t r : TS) : Prop := r = t ∨ (t.armed = false ∧ ∃ w, r = { t with writes := w })
theorem appT_eq {t r : TS} (h : eqT t r) (xs : List Int) : (appT t xs).1 = (appT r xs).1 ∧ eqT (appT t xs).2 (appT r xs).2 := by
  rcases h with rfl | ⟨ha, w, rfl⟩
  · exact ⟨rfl, .inl rfl⟩
  · cases hd : t.down
    · by_cases hr : t.room < t.bs.length + xs.length
      · simp [appT, hd, hr]
        exact .inr ⟨by simp [ha], w, by simp [hd, ha]⟩
      · simp [appT, hd, hr, lastT, ha]
        exact .inr ⟨by simp [ha], w, by simp [hd, ha]⟩
    · simp [appT, hd]
      exact .inr ⟨by simp [ha], w, by simp [hd, ha]⟩
theorem cutT_eq {t r : TS} (h : eqT t r) (n : Int) : (cutT t n).1 = (cutT r n).1 ∧ eqT (cutT t n).2 (cutT r n).2 := by
  rcases h with rfl | ⟨ha, w, rfl⟩
  · exact ⟨rfl, .inl rfl⟩
  · cases hd : t.down
    · by_cases hr : n < 0 ∨ t.bs.length < n
      · simp [cutT, hd, hr]
        exact .inr ⟨by simp [ha], w, by simp [hd, ha]⟩
      · simp [cutT, hd, hr, lastT, ha]
        exact .inr ⟨by simp [ha], w, by simp [hd, ha]⟩
    · simp [cutT, hd]
      exact .inr ⟨by simp [ha], w, by simp [hd, ha]⟩
theorem arm_eq {t r : TS} (h : eqT t r) (w k : Int) : eqT (armT t w k) (armR r w k) := by
  rcases h with rfl | ⟨ha, u, rfl⟩
  · unfold armT armR
    cases hd : r.down
    · by_cases hw : 0 ≤ w
      · rw [Int.max_eq_left hw]
        exact .inl rfl
      · refine .inr ⟨by simp [hw], max w 0, by simp [hd]⟩
    · exact .inl rfl
  · unfold armT armR
    cases hd : t.down
    · by_cases hw : 0 ≤ w
      · rw [Int.max_eq_left hw]
        exact .inl rfl
      · refine .inr ⟨by simp [hw], max w 0, by simp [hd]⟩
    · exact .inr ⟨by simpa using ha, u, by simp [hd]⟩
theorem wake_eq {t r : TS} (h : eqT t r) : eqT (wakeT t) (wakeT r) := by
  rcases h with rfl | ⟨ha, u, rfl⟩
  · exact .inl rfl
  · exact .inr ⟨rfl, u, rfl⟩
theorem eqT.obs {t r : TS} (h : eqT t r) : r.bs = t.bs ∧ r.room = t.room ∧ r.down = t.down := by
  rcases h with rfl | ⟨ha, u, rfl⟩ <;> exact ⟨rfl, rfl, rfl⟩
structure Act where
  kd : Int
  xs : List Int
  n : Int
  kp : Int
def doT (t : TS) (a : Act) : TS := if a.kd.tmod 5 = 0 then (appT t a.xs).2 else if a.kd.tmod 5 = 1 then (cutT t a.n).2 else if a.kd.tmod 5 = 2 then t else if a.kd.tmod 5 = 3 then armT t a.n a.kp else wakeT t
def doR (t : TS) (a : Act) : TS := if a.kd.tmod 5 = 0 then (appT t a.xs).2 else if a.kd.tmod 5 = 1 then (cutT t a.n).2 else if a.kd.tmod 5 = 2 then t else if a.kd.tmod 5 = 3 then armR t a.n a.kp else wakeT t
theorem do_eq {t r : TS} (h : eqT t r) (a : Act) : eqT (doT t a) (doR r a) := by
  unfold doT doR
  split
  · exact (appT_eq h _).2
  · split
    · exact (cutT_eq h _).2
    · split
      · exact h
      · split
        · exact arm_eq h _ _
        · exact wake_eq h
/-- Two tapes that were made behind H0: nothing is shared. -/
structure Pair (H0 H : AH) (p : Nat) (v : AV) (t : TS) (q : Nat) (u : AV) (r : TS) : Prop where
  chg : Chg [] H0 H
  left : At false H p v t
  right : At true H q u r
  hp : H0.length ≤ p
  hq : H0.length ≤ q
  hv : ∀ b ∈ blk v, H0.length ≤ b
  hu : ∀ b ∈ blk u, H0.length ≤ b
  pq : p ≠ q
  pu : p ∉ blk u
  qv : q ∉ blk v
  vu : ∀ b ∈ blk v, b ∉ blk u
section
variable {H0 H H' : AH} {p q : Nat} {v u : AV} {t t' r r' : TS}
theorem Pair.keep (P : Pair H0 H p v t q u r) (c : Chg [] H H') : Pair H0 H' p v t q u r := ⟨P.chg.tr c, P.left.keep c, P.right.keep c, P.hp, P.hq, P.hv, P.hu, P.pq, P.pu, P.qv, P.vu⟩
theorem Pair.stepL (P : Pair H0 H p v t q u r) (s : Step false H p v t' H') : ∃ v', Pair H0 H' p v' t' q u r := by
  obtain ⟨v', h1, h2, h3⟩ := s
  have lu := P.right.mine.lt
  have lq := P.right.lt
  have hl := P.chg.1
  refine ⟨v', ⟨P.chg.trans h2 (fun i hi => .inr ?_), h1, P.right.chg h2 ?_ ?_, P.hp, P.hq, fun b hb => ?_, P.hu, P.pq, P.pu, fun hb => ?_, fun b hb hb2 => ?_⟩⟩
  · rcases List.mem_cons.1 hi with rfl | hi
    · exact P.hp
    · exact P.hv i hi
  · simp only [List.mem_cons, not_or]
    exact ⟨fun e => P.pq e.symm, P.qv⟩
  · intro i hi
    simp only [List.mem_cons, not_or]
    exact ⟨fun e => P.pu (e ▸ hi), fun h => P.vu i h hi⟩
  · rcases h3 b hb with hb | hb
    · exact P.hv b hb
    · omega
  · rcases h3 q hb with hb | hb
    · exact P.qv hb
    · omega
  · rcases h3 b hb with hb | hb
    · exact P.vu b hb hb2
    · have := lu b hb2; omega
theorem Pair.stepR (P : Pair H0 H p v t q u r) (s : Step true H q u r' H') : ∃ u', Pair H0 H' p v t q u' r' := by
  obtain ⟨u', h1, h2, h3⟩ := s
  have lv := P.left.mine.lt
  have lp := P.left.lt
  have hl := P.chg.1
  refine ⟨u', ⟨P.chg.trans h2 (fun i hi => .inr ?_), P.left.chg h2 ?_ ?_, h1, P.hp, P.hq, P.hv, fun b hb => ?_, P.pq, fun hb => ?_, P.qv, fun b hb hb2 => ?_⟩⟩
  · rcases List.mem_cons.1 hi with rfl | hi
    · exact P.hq
    · exact P.hu i hi
  · simp only [List.mem_cons, not_or]
    exact ⟨P.pq, P.pu⟩
  · intro i hi
    simp only [List.mem_cons, not_or]
    exact ⟨fun e => P.qv (e ▸ hi), P.vu i hi⟩
  · rcases h3 b hb with hb | hb
    · exact P.hu b hb
    · omega
  · rcases h3 p hb with hb | hb
    · exact P.pu hb
    · omega
  · rcases h3 b hb2 with hb2 | hb2
    · exact P.vu b hb hb2
    · have := lv b hb; omega
theorem Pair.make (n : Int) : Pair H0 (H0 ++ [.cells (tcells (.slice none 0 (some 0) 0) ⟨[], min (max n 0) 1048576, false, false, 0, 0⟩) .rw, .cells (rcells (.slice none 0 (some 0) 0) ⟨[], min (max n 0) 1048576, false, false, 0, 0⟩) .rw])
    H0.length (.slice none 0 (some 0) 0) ⟨[], min (max n 0) 1048576, false, false, 0, 0⟩ (H0.length + 1) (.slice none 0 (some 0) 0) ⟨[], min (max n 0) 1048576, false, false, 0, 0⟩ :=
  ⟨.app _ _, ⟨by simp [cellsOf], .nil _ _, by simp, by simp; omega, by simp only; omega, by simp⟩, ⟨by simp [cellsOf], .nil _ _, by simp, by simp; omega, by simp only; omega, by simp⟩, by omega, by omega, by simp, by simp, by omega, by simp, by simp, by simp⟩

/-- The bytes. -/
def byT (t : TS) : Prop := Byt t.bs
theorem byT_do {t : TS} (h : byT t) {a : Act} (ha : Byt a.xs) : byT (doT t a) := by
  have hl := (lastT_bs t).1
  unfold doT
  split
  · unfold appT
    split
    · exact h
    · split
      · exact h
      · split
        · exact Byt.app h (ha.take _)
        · exact Byt.app h ha
  · split
    · unfold cutT
      split
      · exact h
      · split
        · exact h
        · split
          · split
            · exact Byt.take h _
            · unfold byT; rw [hl]; exact h
          · exact Byt.take h _
    · split
      · exact h
      · split
        · unfold armT; split <;> exact h
        · exact h

end
end Go.Proofs.Ytcmpldjoggeceaa.T.Tp
end
section
/-! Plain laws of numbers: the zigzag, the bytes of a number, and how they are read. Nothing of the program. -/
set_option linter.unusedVariables false
set_option linter.unusedSimpArgs false
namespace Go.Ab
theorem iand_bits {k : IntKind} {x y : Int} : iand k x y = Go.bits .and k x y := rfl
theorem ior_bits {k : IntKind} {x y : Int} : ior k x y = Go.bits .or k x y := rfl
theorem ixor_bits {k : IntKind} {x y : Int} : ixor k x y = Go.bits .xor k x y := rfl
theorem wu64 (n : Int) : IntKind.u64.wrap n = n % 18446744073709551616 := by simp [IntKind.wrap, IntKind.bits, IntKind.signed]
theorem wraps_u64 (n : Int) (h₀ : 0 ≤ n) (h₁ : n < 2 ^ 64) : IntKind.u64.wrap n = n := by rw [wu64]; omega
theorem or128 (x : Int) : ior .u8 (IntKind.u8.wrap x) 128 = x % 128 + 128 := by
  have key : ∀ a : Fin 256, ior .u8 (a.val : Int) 128 = (a.val : Int) % 128 + 128 := by decide +kernel
  have h := key ⟨(x % 256).toNat, by omega⟩
  have e : (((x % 256).toNat : Nat) : Int) = x % 256 := by omega
  simp only [e] at h
  rw [wrap_u8, h]
  omega
theorem and127_u8 (x : Int) (h0 : 0 ≤ x) (h1 : x < 256) : iand .u8 x 127 = x % 128 := by
  have key : ∀ a : Fin 256, iand .u8 (a.val : Int) 127 = (a.val : Int) % 128 := by decide +kernel
  have h := key ⟨x.toNat, by omega⟩
  have e : ((x.toNat : Nat) : Int) = x := by omega
  simp only [e] at h
  exact h
theorem and127_u64 (x : Int) (h0 : 0 ≤ x) (h1 : x < 18446744073709551616) : iand .u64 x 127 = x % 128 := by
  have := bits_mask .u64 64 (by decide) wraps_u64 7 (by decide) x h0 (by omega)
  simpa [iand_bits] using this
theorem and1_u64 (x : Int) (h0 : 0 ≤ x) (h1 : x < 18446744073709551616) : iand .u64 x 1 = x % 2 := by
  have := bits_mask .u64 64 (by decide) wraps_u64 1 (by decide) x h0 (by omega)
  simpa [iand_bits] using this
theorem or1_u64 (x : Int) (h0 : 0 ≤ x) (h1 : x < 18446744073709551616) (h2 : x % 2 = 0) : ior .u64 x 1 = x + 1 := by
  have := bits_join .u64 64 (by decide) wraps_u64 1 x 1 h0 (by omega) (by omega) (by decide) (by decide) (by decide)
  simpa [ior_bits] using this
theorem xor_all (a : Nat) (ha : a < 2 ^ 64) : a ^^^ 18446744073709551615 = 18446744073709551615 - a := by
  have h : (BitVec.ofNat 64 a ^^^ BitVec.allOnes 64) = ~~~ BitVec.ofNat 64 a := BitVec.xor_allOnes
  have h2 := congrArg BitVec.toNat h
  rw [BitVec.toNat_xor, BitVec.toNat_not, BitVec.toNat_allOnes, BitVec.toNat_ofNat, Nat.mod_eq_of_lt ha] at h2
  exact h2
theorem xor0_u64 (x : Int) (h0 : 0 ≤ x) (h1 : x < 18446744073709551616) : ixor .u64 x 0 = x := by
  obtain ⟨a, rfl⟩ := Int.eq_ofNat_of_zero_le h0
  have h := Go.bits_xor_u64_nat a 0 (by omega) (by decide)
  simpa [ixor_bits] using h
theorem xorm_u64 (x : Int) (h0 : 0 ≤ x) (h1 : x < 18446744073709551616) : ixor .u64 x 18446744073709551615 = 18446744073709551615 - x := by
  obtain ⟨a, rfl⟩ := Int.eq_ofNat_of_zero_le h0
  have ha : a < 2 ^ 64 := by omega
  have h := Go.bits_xor_u64_nat a 18446744073709551615 (by omega) (by decide)
  rw [show ((18446744073709551615 : Nat) : Int) = 18446744073709551615 from rfl] at h
  rw [ixor_bits, h, xor_all a ha]
  omega
theorem xor_i64_nat (a b : Nat) (ha : a < 2 ^ 64) (hb : b < 2 ^ 64) (x y : Int) (hx : BitVec.ofInt 64 x = BitVec.ofNat 64 a) (hy : BitVec.ofInt 64 y = BitVec.ofNat 64 b) : ixor .i64 x y = IntKind.i64.wrap ((a ^^^ b : Nat) : Int) := by
  show IntKind.i64.wrap ((BitVec.ofInt 64 x ^^^ BitVec.ofInt 64 y).toNat : Int) = _
  rw [hx, hy, BitVec.toNat_xor, BitVec.toNat_ofNat, BitVec.toNat_ofNat, Nat.mod_eq_of_lt ha, Nat.mod_eq_of_lt hb]
theorem xor0_i64 (x : Int) (h0 : 0 ≤ x) (h1 : x < 9223372036854775808) : ixor .i64 x 0 = x := by
  obtain ⟨a, rfl⟩ := Int.eq_ofNat_of_zero_le h0
  rw [xor_i64_nat a 0 (by omega) (by decide) a 0 (BitVec.ofInt_natCast ..) (by decide), Nat.xor_zero, wrap_i64 (by omega) (by omega)]
theorem xorm_i64 (x : Int) (h0 : 0 ≤ x) (h1 : x < 9223372036854775808) : ixor .i64 x (-1) = -x - 1 := by
  obtain ⟨a, rfl⟩ := Int.eq_ofNat_of_zero_le h0
  rw [xor_i64_nat a 18446744073709551615 (by omega) (by decide) a (-1) (BitVec.ofInt_natCast ..) (by decide), xor_all a (by omega), IntKind.wrap_i64]
  omega
/-- Disjoint bits. -/
theorem or_high (x y p : Int) (i : Nat) (hi : i ≤ 64) (hp : p = 2 ^ i) (hx0 : 0 ≤ x) (hx : x < p) (hy0 : 0 ≤ y) (hy : y < 18446744073709551616) (hm : y % p = 0) : ior .u64 x y = x + y := by
  subst hp
  have hle : (2 : Int) ^ i ≤ 18446744073709551616 := by
    have h1 : 2 ^ i ≤ 2 ^ 64 := Nat.pow_le_pow_right (by decide) hi
    have h2 : ((2 ^ i : Nat) : Int) ≤ ((2 ^ 64 : Nat) : Int) := Int.ofNat_le.2 h1
    rw [Int.natCast_pow] at h2
    exact h2
  have h := bits_join .u64 64 (by decide) wraps_u64 i y x hy0 hm (by omega) hx0 hx (by omega)
  have hc : ior .u64 x y = Go.bits .or .u64 y x := by
    unfold ior Go.bits
    simp only [BitVec.or_comm]
  rw [hc, h]
  omega

/-- The zigzag. -/
def zig (n : Int) : Int := if 0 ≤ n then 2 * n else -(2 * n) - 1
def unz (u : Int) : Int := if u % 2 = 0 then u / 2 else -(u / 2) - 1
theorem zig_nonneg (n : Int) : 0 ≤ zig n := by unfold zig; split <;> omega
theorem zig_lt (n : Int) (h0 : -9223372036854775808 ≤ n) (h1 : n ≤ 9223372036854775807) : zig n < 18446744073709551616 := by unfold zig; split <;> omega
theorem unz_zig (n : Int) : unz (zig n) = n := by unfold zig unz; split <;> split <;> omega
theorem zig_unz (u : Int) (h : 0 ≤ u) : zig (unz u) = u := by unfold zig unz; split <;> split <;> omega
theorem unz_range (u : Int) (h0 : 0 ≤ u) (h1 : u < 18446744073709551616) : -9223372036854775808 ≤ unz u ∧ unz u ≤ 9223372036854775807 := by unfold unz; split <;> omega
theorem shl1 (x : Int) : ishl .u64 x 1 = (x * 2) % 18446744073709551616 := by
  unfold ishl
  rw [wu64]
  rfl
theorem shr1 (x : Int) : ishr .u64 x 1 = x / 2 := by
  show x.fdiv 2 = x / 2
  rw [Int.fdiv_eq_ediv_of_nonneg _ (by decide)]
theorem shr7 (x : Int) : ishr .u64 x 7 = x / 128 := by
  show x.fdiv 128 = x / 128
  rw [Int.fdiv_eq_ediv_of_nonneg _ (by decide)]
theorem shr63 (x : Int) : ishr .i64 x 63 = x / 9223372036854775808 := by
  show x.fdiv 9223372036854775808 = x / 9223372036854775808
  rw [Int.fdiv_eq_ediv_of_nonneg _ (by decide)]
/-- As the program makes it. -/
theorem zig_go (n : Int) (h0 : -9223372036854775808 ≤ n) (h1 : n ≤ 9223372036854775807) :
    ixor .u64 (ishl .u64 (IntKind.u64.wrap n) 1) (IntKind.u64.wrap (ishr .i64 n 63)) = zig n := by
  rw [shl1, shr63]
  simp only [wu64]
  by_cases h : 0 ≤ n
  · have e1 : n / 9223372036854775808 % 18446744073709551616 = 0 := by omega
    rw [e1, xor0_u64 _ (by omega) (by omega)]
    unfold zig; rw [if_pos h]; omega
  · have e1 : n / 9223372036854775808 % 18446744073709551616 = 18446744073709551615 := by omega
    rw [e1, xorm_u64 _ (by omega) (by omega)]
    unfold zig; rw [if_neg h]; omega
/-- As the reference makes it. -/
theorem zig_ref_neg (n : Int) (h0 : -9223372036854775808 ≤ n) (h1 : n < 0) :
    ior .u64 (ishl .u64 (IntKind.u64.wrap (IntKind.i64.wrap (-(IntKind.i64.wrap (n + 1))))) 1) 1 = zig n := by
  rw [wrap_i64 (x := n + 1) (by omega) (by omega), wrap_i64 (by omega) (by omega), shl1]
  simp only [wu64]
  have e2 : -(n + 1) % 18446744073709551616 * 2 % 18446744073709551616 = 2 * (-(n + 1)) := by omega
  rw [e2, or1_u64 _ (by omega) (by omega) (by omega)]
  unfold zig; rw [if_neg (by omega)]; omega
theorem zig_ref_pos (n : Int) (h0 : 0 ≤ n) (h1 : n ≤ 9223372036854775807) : ishl .u64 (IntKind.u64.wrap n) 1 = zig n := by
  rw [shl1]
  simp only [wu64]
  unfold zig; rw [if_pos h0]; omega
/-- As the program takes it back. -/
theorem unz_go (v : Int) (h0 : 0 ≤ v) (h1 : v < 18446744073709551616) : ixor .i64 (IntKind.i64.wrap (ishr .u64 v 1)) (IntKind.i64.wrap (-(IntKind.i64.wrap (iand .u64 v 1)))) = unz v := by
  rw [and1_u64 v h0 h1, shr1]
  have e1 : IntKind.i64.wrap (v / 2) = v / 2 := wrap_i64 (by omega) (by omega)
  rw [e1]
  unfold unz
  by_cases h : v % 2 = 0
  · have e2 : IntKind.i64.wrap (-(IntKind.i64.wrap (v % 2))) = 0 := by rw [h]; decide
    rw [if_pos h, e2, xor0_i64 _ (by omega) (by omega)]
  · have e3 : v % 2 = 1 := by omega
    have e2 : IntKind.i64.wrap (-(IntKind.i64.wrap (v % 2))) = -1 := by rw [e3]; decide
    rw [if_neg h, e2, xorm_i64 _ (by omega) (by omega)]
theorem unz_ref_odd (v : Int) (h0 : 0 ≤ v) (h1 : v < 18446744073709551616) (h : iand .u64 v 1 = 1) : IntKind.i64.wrap (IntKind.i64.wrap (-(IntKind.i64.wrap (ishr .u64 v 1))) - 1) = unz v := by
  rw [and1_u64 v h0 h1] at h
  rw [shr1, wrap_i64 (x := v / 2) (by omega) (by omega), wrap_i64 (x := -(v / 2)) (by omega) (by omega), wrap_i64 (by omega) (by omega)]
  unfold unz; rw [if_neg (by omega)]
theorem unz_ref_even (v : Int) (h0 : 0 ≤ v) (h1 : v < 18446744073709551616) (h : ¬ iand .u64 v 1 = 1) : IntKind.i64.wrap (ishr .u64 v 1) = unz v := by
  rw [and1_u64 v h0 h1] at h
  rw [shr1, wrap_i64 (x := v / 2) (by omega) (by omega)]
  unfold unz; rw [if_pos (by omega)]

/-- A number's bytes, at most f + 1 of them. -/
def vb : Nat → Int → List Int
  | 0, u => [u]
  | f + 1, u => if u > 127 then (u % 128 + 128) :: vb f (u / 128) else [u]
theorem vb_pos (f : Nat) (u : Int) : 0 < (vb f u).length := by
  cases f <;> simp only [vb]
  · simp
  · split <;> simp
theorem vb_le (f : Nat) : ∀ u, (vb f u).length ≤ f + 1 := by
  induction f with
  | zero => intro u; simp [vb]
  | succ f ih =>
    intro u
    simp only [vb]
    split
    · have := ih (u / 128); simp; omega
    · simp
/-- 128 to the f + 1. -/
def pw : Nat → Int
  | 0 => 128
  | f + 1 => pw f * 128
theorem pw_succ (f : Nat) : pw (f + 1) = pw f * 128 := rfl
theorem pw_nine : pw 9 = 1180591620717411303424 := rfl
theorem vb_byte (f : Nat) : ∀ u, 0 ≤ u → u < pw f → Byt (vb f u) := by
  induction f with
  | zero =>
    intro u h0 h1 x hx
    simp [vb] at hx
    subst hx
    simp only [pw] at h1
    omega
  | succ f ih =>
    intro u h0 h1 x hx
    rw [pw_succ] at h1
    simp only [vb] at hx
    split at hx
    · rcases List.mem_cons.1 hx with rfl | hx
      · omega
      · exact ih (u / 128) (by omega) (by omega) x hx
    · simp at hx; subst hx; omega
/-- What an int64 can hold. -/
def I64 (n : Int) : Prop := -9223372036854775808 ≤ n ∧ n ≤ 9223372036854775807
/-- A number's bytes. -/
def enc (n : Int) : List Int := vb 9 (zig n)
theorem enc_len (n : Int) : 0 < (enc n).length ∧ (enc n).length ≤ 10 := ⟨vb_pos _ _, vb_le _ _⟩
theorem enc_byt {n : Int} (h : I64 n) : Byt (enc n) := vb_byte 9 (zig n) (zig_nonneg n) (by have := zig_lt n h.1 h.2; rw [pw_nine]; omega)
/-- 2 to the 7 i. -/
def pp : Nat → Int
  | 0 => 1
  | i + 1 => pp i * 128
theorem pp_eq (i : Nat) : pp i = 2 ^ (7 * i) := by
  induction i with
  | zero => rfl
  | succ i ih =>
    show pp i * 128 = _
    rw [ih, show 7 * (i + 1) = 7 * i + 7 by omega, Int.pow_add]
    rfl
theorem pp_pos (i : Nat) : 0 < pp i := by rw [pp_eq]; exact Int.pow_pos (by decide)
theorem split7 (u p : Int) : u % 128 * p + u / 128 * (p * 128) = u * p := by
  have h3 : u % 128 + 128 * (u / 128) = u := Int.emod_add_mul_ediv ..
  have h4 : u % 128 * p + u / 128 * (p * 128) = (u % 128 + 128 * (u / 128)) * p := by
    rw [Int.add_mul]
    congr 1
    rw [Int.mul_comm 128 (u / 128), Int.mul_assoc, Int.mul_comm 128 p]
  rw [h4, h3]
/-- Seven bits more. -/
def more (i : Nat) (x c : Int) : Int := x + (c % 128 * pp i) % 18446744073709551616
theorem pp_dvd {i : Nat} (hi : i ≤ 9) : ∃ q : Int, 18446744073709551616 = pp i * q := by
  refine ⟨2 ^ (64 - 7 * i), ?_⟩
  rw [pp_eq, ← Int.pow_add, show 7 * i + (64 - 7 * i) = 64 by omega]
  rfl
theorem pp_le {i : Nat} (hi : i ≤ 9) : pp i ≤ 9223372036854775808 := by
  rw [pp_eq]
  have h1 : 2 ^ (7 * i) ≤ 2 ^ 63 := Nat.pow_le_pow_right (by decide) (by omega)
  have h2 : ((2 ^ (7 * i) : Nat) : Int) ≤ ((2 ^ 63 : Nat) : Int) := Int.ofNat_le.2 h1
  rw [Int.natCast_pow] at h2
  exact h2
theorem more_hi {i : Nat} (hi : i ≤ 9) {x c : Int} (hx0 : 0 ≤ x) (hx : x < pp i) : 0 ≤ more i x c ∧ more i x c < 18446744073709551616 := by
  have hp := pp_pos i
  have hm : ((c % 128 * pp i) % 18446744073709551616) % pp i = 0 := by
    rw [Int.emod_emod_of_dvd _ (pp_dvd hi), Int.mul_emod_left]
  have h0 : 0 ≤ (c % 128 * pp i) % 18446744073709551616 := Int.emod_nonneg _ (by decide)
  have h1 : (c % 128 * pp i) % 18446744073709551616 < 18446744073709551616 := Int.emod_lt_of_pos _ (by decide)
  unfold more
  refine ⟨by omega, ?_⟩
  generalize (c % 128 * pp i) % 18446744073709551616 = y at hm h0 h1
  obtain ⟨q, e⟩ := pp_dvd hi
  have d1 : pp i ∣ 18446744073709551616 - y := Int.dvd_sub ⟨q, e⟩ (Int.dvd_of_emod_eq_zero hm)
  have := Int.le_of_dvd (by omega) d1
  omega
theorem more_small {i : Nat} (hi : i ≤ 8) (x : Int) {c : Int} : more i x c = x + c % 128 * pp i := by
  have hp := pp_pos i
  have h1 : pp i ≤ 72057594037927936 := by
    rw [pp_eq]
    have h1 : 2 ^ (7 * i) ≤ 2 ^ 56 := Nat.pow_le_pow_right (by decide) (by omega)
    have h2 : ((2 ^ (7 * i) : Nat) : Int) ≤ ((2 ^ 56 : Nat) : Int) := Int.ofNat_le.2 h1
    rw [Int.natCast_pow] at h2
    exact h2
  have h5 : c % 128 * pp i ≤ 127 * pp i := Int.mul_le_mul_of_nonneg_right (by omega) (by omega)
  have hge : 0 ≤ c % 128 * pp i := Int.mul_nonneg (by omega) (by omega)
  unfold more
  rw [Int.emod_eq_of_lt hge (by omega)]
theorem more_lt {i : Nat} (hi : i ≤ 8) {x c : Int} (hx0 : 0 ≤ x) (hx : x < pp i) : 0 ≤ more i x c ∧ more i x c < pp (i + 1) := by
  have hp := pp_pos i
  have h5 : c % 128 * pp i ≤ 127 * pp i := Int.mul_le_mul_of_nonneg_right (by omega) (by omega)
  have hge : 0 ≤ c % 128 * pp i := Int.mul_nonneg (by omega) (by omega)
  have hp1 : pp (i + 1) = pp i * 128 := rfl
  rw [more_small hi, hp1]
  omega
/-- As both make it. -/
theorem or_step {i : Nat} (hi : i ≤ 9) {x c : Int} (hx0 : 0 ≤ x) (hx : x < pp i) (hc0 : 0 ≤ c) (hc : c < 256) {z : Int} (hz : z = 7 * (i : Int)) :
    ior .u64 x (ishl .u64 (IntKind.u64.wrap (iand .u8 c 127)) z) = more i x c := by
  subst hz
  have hs : ishl .u64 (IntKind.u64.wrap (iand .u8 c 127)) (7 * (i : Int)) = (c % 128 * pp i) % 18446744073709551616 := by
    rw [and127_u8 c hc0 hc, wu64, Int.emod_eq_of_lt (a := c % 128) (by omega) (by omega)]
    unfold ishl
    have e2 : min (7 * (i : Int)).toNat IntKind.u64.bits = 7 * i := by
      simp [IntKind.bits]; omega
    rw [e2, wu64, pp_eq]
  rw [hs]
  have hm : ((c % 128 * pp i) % 18446744073709551616) % pp i = 0 := by
    rw [Int.emod_emod_of_dvd _ (pp_dvd hi), Int.mul_emod_left]
  exact or_high x _ (pp i) (7 * i) (by omega) (pp_eq i) hx0 hx (Int.emod_nonneg _ (by decide)) (Int.emod_lt_of_pos _ (by decide)) hm
/-- A number is read, from byte i on; x is what there is yet. st: each number in just one way. -/
def rdn (st : Bool) : List Int → Nat → Int → Option (Int × Nat)
  | [], _, _ => none
  | c :: l, i, x => if 10 ≤ i then none else if st = true ∧ (i = 9 ∧ 1 < c ∨ c = 0 ∧ 0 < i) then none else if c < 128 then some (unz (more i x c), i + 1) else rdn st l (i + 1) (more i x c)
theorem rdn_ten (st : Bool) (l : List Int) {i : Nat} (hi : 10 ≤ i) (x : Int) : rdn st l i x = none := by
  cases l with
  | nil => rfl
  | cons c l => simp only [rdn]; rw [if_pos hi]
theorem rdn_strict : ∀ (l : List Int) (i : Nat) (x : Int) (r : Int × Nat), rdn true l i x = some r → rdn false l i x = some r
  | [], _, _, _, h => by cases h
  | c :: l, i, x, r, h => by
    simp only [rdn] at h ⊢
    split at h
    · cases h
    rename_i h1
    rw [if_neg h1]
    split at h
    · cases h
    rw [if_neg (by simp)]
    split at h
    · rename_i h3; rw [if_pos h3]; exact h
    · rename_i h3; rw [if_neg h3]; exact rdn_strict l _ _ _ h
/-- How far it goes. -/
theorem rdn_far (st : Bool) : ∀ (l : List Int) (i : Nat) (x : Int) (v : Int) (k : Nat), rdn st l i x = some (v, k) → 0 ≤ x → x < pp i → i < k ∧ k ≤ i + l.length ∧ k ≤ 10 ∧ I64 v
  | [], _, _, _, _, h, _, _ => by cases h
  | c :: l, i, x, v, k, h, h0, h1 => by
    simp only [rdn] at h
    split at h
    · cases h
    rename_i h2
    split at h
    · cases h
    split at h
    · have hm := more_hi (i := i) (by omega) (c := c) h0 h1
      have hu := unz_range _ hm.1 hm.2
      injection h with h
      injection h with e1 e2
      subst e1 e2
      simp only [List.length_cons]
      exact ⟨by omega, by omega, by omega, hu⟩
    · by_cases h9 : i ≤ 8
      · have hm := more_lt h9 (c := c) h0 h1
        have := rdn_far st l (i + 1) _ v k h hm.1 hm.2
        simp only [List.length_cons]
        exact ⟨by omega, by omega, this.2.2.1, this.2.2.2⟩
      · rw [rdn_ten st l (by omega)] at h
        cases h
theorem rdn_enc (st : Bool) (f : Nat) : ∀ (i : Nat) (x u : Int) (rest : List Int), f + i = 9 → 0 ≤ u → u < pw f → (0 < i → 0 < u) → x + u * pp i < 18446744073709551616 → 0 ≤ x → x < pp i →
    rdn st (vb f u ++ rest) i x = some (unz (x + u * pp i), i + (vb f u).length) := by
  induction f with
  | zero =>
    intro i x u rest hf h0 h1 hz h2 hx0 hx1
    obtain rfl : i = 9 := by clear h0 h1 h2 hx0 hx1 hz; omega
    have h99 : pp 9 = 9223372036854775808 := by decide
    simp only [pw] at h1
    rw [h99] at h2
    have hu : u ≤ 1 := by omega
    simp only [vb, List.cons_append, rdn]
    rw [if_neg (by omega), if_neg (by have := hz (by omega); omega), if_pos (by omega)]
    unfold more
    rw [h99, Int.emod_eq_of_lt (a := u) (by omega) (by omega), Int.emod_eq_of_lt (b := 18446744073709551616) (by omega) (by omega)]
    simp
  | succ f ih =>
    intro i x u rest hf h0 h1 hz h2 hx0 hx1
    have hi8 : i ≤ 8 := by clear h0 h1 h2 hx0 hx1; omega
    rw [pw_succ] at h1
    have hpp := pp_pos i
    simp only [vb]
    by_cases hu : u > 127
    · rw [if_pos hu]
      have hm : (u % 128 + 128) % 128 = u % 128 := by omega
      have hs := split7 u (pp i)
      have hp1 : pp (i + 1) = pp i * 128 := rfl
      have h5 : u % 128 * pp i ≤ 127 * pp i := Int.mul_le_mul_of_nonneg_right (by omega) (by omega)
      have hge : 0 ≤ (u % 128) * pp i := Int.mul_nonneg (by omega) (by omega)
      simp only [List.cons_append, rdn]
      rw [if_neg (by clear h2 hs h5; omega), if_neg (by clear h2 hs h5; omega), if_neg (by clear h2 hs h5; omega), more_small hi8, hm]
      rw [ih (i + 1) (x + u % 128 * pp i) (u / 128) rest (by clear h2 hs h5; omega) (by clear h2 hs h5; omega) (by clear h2 hs h5; omega) (fun _ => by clear h2 hs h5; omega) (by rw [hp1]; clear h5 hge h1 hx0 hx1; omega) (by clear hs h5 h2; omega) (by rw [hp1]; clear hs h2; omega), hp1]
      rw [show x + u % 128 * pp i + u / 128 * (pp i * 128) = x + u * pp i by omega, List.length_cons, show i + 1 + (vb f (u / 128)).length = i + ((vb f (u / 128)).length + 1) by omega]
    · rw [if_neg hu]
      simp only [List.cons_append, rdn]
      rw [if_neg (by clear h2; omega), if_neg (fun h => by clear h2 h1 hx0 hx1; rcases h.2 with h | h; omega; have := hz h.2; omega), if_pos (by clear h2; omega), more_small hi8, Int.emod_eq_of_lt h0 (by clear h2; omega)]
      rfl
theorem rdn_one (st : Bool) {v : Int} (hv : I64 v) (rest : List Int) : rdn st (enc v ++ rest) 0 0 = some (v, (enc v).length) := by
  have := zig_lt v hv.1 hv.2
  have h := rdn_enc st 9 0 0 (zig v) rest rfl (zig_nonneg v) (by rw [pw_nine]; omega) (by omega) (by simp only [pp]; omega) (by omega) (by decide)
  simp [pp, unz_zig] at h
  exact h
theorem rdn_any (f : Nat) : ∀ (l : List Int) (i : Nat) (x v : Int) (k : Nat), Byt l → f + i = 9 → 0 ≤ x → x < pp i → rdn true l i x = some (v, k) →
    ∃ u, 0 ≤ u ∧ (0 < i → 0 < u) ∧ v = unz (x + u * pp i) ∧ k = i + (vb f u).length ∧ l = vb f u ++ l.drop (vb f u).length := by
  induction f with
  | zero =>
    intro l i x v k hB hf hx0 hx1 h
    obtain rfl : i = 9 := by omega
    cases l with
    | nil => cases h
    | cons c l =>
      have hc := hB c (List.mem_cons_self ..)
      simp only [rdn] at h
      rw [if_neg (by omega)] at h
      split at h
      · cases h
      rename_i h2
      have hc1 : 0 < c ∧ c ≤ 1 := by simp at h2; omega
      rw [if_pos (by omega)] at h
      injection h with h
      injection h with e1 e2
      have h99 : pp 9 = 9223372036854775808 := by decide
      refine ⟨c, by omega, fun _ => by omega, ?_, by simp [vb, ← e2], by simp [vb]⟩
      rw [← e1]
      unfold more
      rw [h99, Int.emod_eq_of_lt (a := c) (by omega) (by omega), Int.emod_eq_of_lt (b := 18446744073709551616) (by omega) (by omega)]
  | succ f ih =>
    intro l i x v k hB hf hx0 hx1 h
    cases l with
    | nil => cases h
    | cons c l =>
      have hc := hB c (List.mem_cons_self ..)
      have hi8 : i ≤ 8 := by omega
      simp only [rdn] at h
      rw [if_neg (by omega)] at h
      split at h
      · cases h
      rename_i h2
      have h2' : ¬ (c = 0 ∧ 0 < i) := by simp at h2; omega
      split at h
      · rename_i h3
        injection h with h
        injection h with e1 e2
        rw [more_small hi8, Int.emod_eq_of_lt hc.1 h3] at e1
        have hv : vb (f + 1) c = [c] := by simp only [vb]; rw [if_neg (by omega)]
        exact ⟨c, hc.1, fun _ => by omega, e1.symm, by rw [hv, ← e2]; rfl, by rw [hv]; rfl⟩
      · have hm := more_lt hi8 (c := c) hx0 hx1
        obtain ⟨u, g0, g1, g2, g3, g4⟩ := ih l (i + 1) _ v k (fun y hy => hB y (List.mem_cons_of_mem _ hy)) (by omega) hm.1 hm.2 h
        have g1 := g1 (by omega)
        have hp1 : pp (i + 1) = pp i * 128 := rfl
        have hv : vb (f + 1) (c % 128 + 128 * u) = c :: vb f u := by
          simp only [vb]
          rw [if_pos (by omega), show (c % 128 + 128 * u) % 128 + 128 = c by omega, show (c % 128 + 128 * u) / 128 = u by omega]
        refine ⟨c % 128 + 128 * u, by omega, fun _ => by omega, ?_, ?_, ?_⟩
        · rw [g2, more_small hi8, hp1, Int.add_mul, show 128 * u * pp i = u * (pp i * 128) by rw [Int.mul_comm 128 u, Int.mul_assoc, Int.mul_comm 128], Int.add_assoc]
        · rw [hv, g3, List.length_cons]; omega
        · rw [hv, List.length_cons, List.drop_succ_cons, List.cons_append, ← g4]
/-- What is read in just one way is one's own bytes. -/
theorem rdn_own {l : List Int} (hB : Byt l) {v : Int} {k : Nat} (h : rdn true l 0 0 = some (v, k)) : I64 v ∧ k = (enc v).length ∧ l = enc v ++ l.drop k := by
  obtain ⟨u, g0, _, g2, g3, g4⟩ := rdn_any 9 l 0 0 v k hB rfl (Int.le_refl 0) (by decide) h
  have hv : v = unz u := by simpa [pp] using g2
  have he : enc v = vb 9 u := by unfold enc; rw [hv, zig_unz u g0]
  rw [Nat.zero_add] at g3
  refine ⟨(rdn_far true l 0 0 v k h (Int.le_refl 0) (by decide)).2.2.2, by rw [he, g3], ?_⟩
  rw [he, g3]; exact g4
end Go.Ab
end
section
/-! Numbers in bytes: written and read, by the program and by the document. -/
set_option linter.unusedVariables false
set_option linter.unusedSimpArgs false
set_option maxHeartbeats 4000000
set_option maxRecDepth 100000
namespace Go.Proofs.Ytcmpldjoggeceaa.T
open Go Go.Ab
/-- An own, new slice of bytes. -/
def New8 (H H' : AH) (v : AV) (bs : List Int) : Prop := Mine H' 1 v (u8s bs) ∧ Chg [] H H' ∧ ∀ i ∈ blk v, H.length ≤ i
theorem New8.to {H0 H H' : AH} {v v' : AV} {bs cs : List Int} (h : New8 H0 H v bs) (m : Mine H' 1 v' (u8s cs)) (c : Chg (blk v) H H') (k : ∀ i ∈ blk v', i ∈ blk v ∨ H.length ≤ i) : New8 H0 H' v' cs :=
  ⟨m, h.2.1.trans c (fun i hi => .inr (h.2.2 i hi)), fun i hi => (k i hi).elim (h.2.2 i) (fun e => Nat.le_trans h.2.1.1 e)⟩
theorem New8.keep {H0 H H' : AH} {v : AV} {bs : List Int} (h : New8 H0 H v bs) (c : Chg [] H H') : New8 H0 H' v bs := ⟨h.1.keep c, h.2.1.tr c, h.2.2⟩
theorem New8.get {H0 H H' : AH} {v : AV} {bs : List Int} (h : New8 H H' v bs) {i : Nat} {A : AB} (e : H[i]? = some A) : H'[i]? = some A := h.2.1.get e (by simp)
theorem New8.back {H0 H1 H : AH} {v : AV} {bs : List Int} (h : New8 H1 H v bs) (c : Chg [] H0 H1) : New8 H0 H v bs := ⟨h.1, c.tr h.2.1, fun i hi => Nat.le_trans c.1 (h.2.2 i hi)⟩
/-- A new slice of bytes. -/
def Fr8 (H H' : AH) (v : AV) (bs : List Int) : Prop := B8 H' v bs ∧ Chg [] H H' ∧ ∀ i ∈ blk v, H.length ≤ i
theorem New8.fr {H H' : AH} {v : AV} {bs : List Int} (h : New8 H H' v bs) : Fr8 H H' v bs := ⟨h.1.sl, h.2.1, h.2.2⟩
theorem New8.bk {H0 H1 H : AH} {v : AV} {bs : List Int} (h : New8 H1 H v bs) (c : Chg [] H0 H1) : New8 H0 H v bs := ⟨h.1, c.tr h.2.1, fun i hi => Nat.le_trans c.1 (h.2.2 i hi)⟩
theorem New8.nil (H : AH) : New8 H H (.slice none 0 (some 0) 0) [] := ⟨.nil _ _, .refl, by simp⟩
theorem b8_new {H X : AH} {cs : List Int} {n : Nat} {c : Option Nat} (hX : X = H ++ [.cells (u8s cs) .rw]) (hn : n = cs.length) (h4 : ∀ k, c = some k → n ≤ k) : B8 X (.slice (some (H.length, 0)) n c 1) cs := by
  subst hX hn
  exact SL.mk Nat.one_pos (rowOf_rw (by simp)) (by simp) h4
section
variable {k : Nat} {H : AH} {b : AV} {bs : List Int} {n : Int}
theorem number_ok (hb : B8 H b bs) (hl : bs.length ≤ 1000000) (hn : I64 n) : Hx (callA ap (k + 20) (.func 69 [] []) [b, .int .i64 n] 0 H) fun r => New8 H r.2 r.1 (bs ++ enc n) := by
  rw [hx_go fn69 rfl, b69]
  obtain ⟨a, c, s, rfl⟩ := hb.len8
  obtain ⟨m, hm⟩ : ∃ m : Nat, m = bs.length + 10 := ⟨_, rfl⟩
  have hw : IntKind.i64.wrap ((bs.length : Int) + 10) = (m : Int) := by rw [wrap_i64 (by omega) (by omega)]; omega
  have hc : canMake 0 (m : Int) 1 1 := by unfold canMake room; omega
  have hz := zig_go n hn.1 hn.2
  have ow : Mine (H ++ [.cells (List.replicate m (.int .u8 0)) .rw]) 1 (.slice (some (H.length, 0)) 0 (some m) 1) [] := .row _ 0 _ (List.replicate m (.int .u8 0)) _ Nat.one_pos (by simp) (by simp) (by simp) (by simp)
  have sm : bs.length ≤ room := by unfold room; omega
  simp [f69, b69, hw, hc]
  refine Hx.mapp (ow.append (hb.keep (Chg.app _ _)) Nat.one_pos Nat.one_pos u8s_one (by simpa using sm)) ?_
  rintro ⟨v, H2⟩ ⟨m2, c2, k2⟩
  simp only [List.nil_append] at m2 c2 k2
  have nw : New8 H H2 v bs := ⟨m2, (Chg.app _ _).trans c2 (by simp), fun i hi => by rcases k2 i hi with h | h <;> simp at h <;> omega⟩
  simp [hz]
  refine hx_down (fun j s => ∃ v H2 u pre, s = ⟨sp 35 [(5, v), (6, .int .u64 u)], H2, []⟩ ∧ New8 H H2 v (bs ++ pre) ∧ 0 ≤ u ∧ u < pw j ∧ u < 18446744073709551616 ∧ pre ++ vb j u = enc n ∧ pre.length + j = 9) (j := 9) ?_ (by omega) ⟨v, H2, zig n, [], rfl, by simpa using nw, zig_nonneg n, by have := zig_lt n hn.1 hn.2; rw [pw_nine]; omega, zig_lt n hn.1 hn.2, rfl, rfl⟩
  rintro j _ ⟨v, H2, u, pre, rfl, nw, h0, h1, hb2, he, hj⟩
  clear c2 m2 k2
  have hs : (bs ++ pre).length + 1 ≤ room := by simp; unfold room; omega
  by_cases hu : 127 < u
  · cases j with
    | zero => simp only [pw] at h1; omega
    | succ j =>
      have hv : vb (j + 1) u = (u % 128 + 128) :: vb j (u / 128) := by simp only [vb]; rw [if_pos hu]
      rw [pw_succ] at h1
      simp [hu, or128, shr7]
      have nk : New8 H (H2 ++ [.cells [.int .u8 (u % 128 + 128)] .rw]) v (bs ++ pre) := nw.keep (.app _ _)
      refine Hx.mapp (nk.1.append (b8_new (cs := [u % 128 + 128]) rfl rfl (by simp)) Nat.one_pos Nat.one_pos u8s_one (by simpa using hs)) ?_
      rintro ⟨v3, H3⟩ ⟨m3, c3, k3⟩
      rw [← u8s_app] at m3
      simp only at m3 c3 k3
      simp [shr7]
      refine ⟨j, by omega, v3, H3, u / 128, rfl, pre ++ [u % 128 + 128], ?_, by omega, by omega, by omega, ?_, by simp; omega⟩
      · simpa using nk.to m3 c3 k3
      · rw [← he, hv]; simp
  · have hv : vb j u = [u] := by cases j <;> simp only [vb]; rw [if_neg (by omega)]
    have hw8 : IntKind.u8.wrap u = u := by rw [wrap_u8]; omega
    simp [hu, hw8]
    have nk : New8 H (H2 ++ [.cells [.int .u8 u] .rw]) v (bs ++ pre) := nw.keep (.app _ _)
    refine Hx.mapp (nk.1.append (b8_new (cs := [u]) rfl rfl (by simp)) Nat.one_pos Nat.one_pos u8s_one (by simpa using hs)) ?_
    rintro ⟨v3, H3⟩ ⟨m3, c3, k3⟩
    rw [← u8s_app] at m3
    simp only at m3 c3 k3
    simp
    have := nk.to m3 c3 k3
    rw [List.append_assoc, ← hv, he] at this
    exact this
theorem rnumber_ok (hb : B8 H b bs) (hl : bs.length ≤ 1000000) (hn : I64 n) : Hx (callA ap (k + 20) (.func 50 [] []) [b, .int .i64 n] 0 H) fun r => New8 H r.2 r.1 (bs ++ enc n) := by
  rw [hx_go fn50 rfl, b50]
  obtain ⟨a, c, s, rfl⟩ := hb.len8
  have ow : Mine (H ++ [.cells [] .rw]) 1 (.slice (some (H.length, 0)) 0 (some 0) 1) [] := .row _ 0 _ [] _ Nat.one_pos (by simp) (by simp) (by simp) (by simp)
  have sm : bs.length ≤ room := by unfold room; omega
  simp [f50, b50]
  refine Hx.mapp (ow.append (hb.keep (Chg.app _ _)) Nat.one_pos Nat.one_pos u8s_one (by simpa using sm)) ?_
  rintro ⟨v, H2⟩ ⟨m2, c2, k2⟩
  simp only [List.nil_append] at m2 c2 k2
  have nw : New8 H H2 v bs := ⟨m2, (Chg.app _ _).trans c2 (by simp), fun i hi => by rcases k2 i hi with h | h <;> simp at h <;> omega⟩
  clear c2 m2 k2 hb ow
  by_cases hneg : n < 0
  case' pos =>
    have hz := zig_ref_neg n hn.1 hneg
    simp [hneg, hz]
  case' neg =>
    have hz := zig_ref_pos n (by omega) hn.2
    simp [hneg, hz]
  all_goals
    refine hx_down (fun j s => ∃ v H2 u pre, s = ⟨sp 37 [(5, v), (6, .int .u64 u)], H2, []⟩ ∧ New8 H H2 v (bs ++ pre) ∧ 0 ≤ u ∧ u < pw j ∧ u < 18446744073709551616 ∧ pre ++ vb j u = enc n ∧ pre.length + j = 9) (j := 9) ?_ (by omega) ⟨v, H2, zig n, [], rfl, by simpa using nw, zig_nonneg n, by have := zig_lt n hn.1 hn.2; rw [pw_nine]; omega, zig_lt n hn.1 hn.2, rfl, rfl⟩
    rintro j _ ⟨v, H2, u, pre, rfl, nw, h0, h1, hb2, he, hj⟩
    have hs : (bs ++ pre).length + 1 ≤ room := by simp; unfold room; omega
    by_cases hu : 127 < u
    · cases j with
      | zero => simp only [pw] at h1; omega
      | succ j =>
        have hv : vb (j + 1) u = (u % 128 + 128) :: vb j (u / 128) := by simp only [vb]; rw [if_pos hu]
        have ha := and127_u64 u h0 hb2
        have hw : ior .u8 (IntKind.u8.wrap (u % 128)) 128 = u % 128 + 128 := by rw [or128]; omega
        rw [pw_succ] at h1
        simp [hu, ha, hw, shr7]
        have nk : New8 H (H2 ++ [.cells [.int .u8 (u % 128 + 128)] .rw]) v (bs ++ pre) := nw.keep (.app _ _)
        refine Hx.mapp (nk.1.append (b8_new (cs := [u % 128 + 128]) rfl rfl (by simp)) Nat.one_pos Nat.one_pos u8s_one (by simpa using hs)) ?_
        rintro ⟨v3, H3⟩ ⟨m3, c3, k3⟩
        rw [← u8s_app] at m3
        simp only at m3 c3 k3
        simp [shr7]
        refine ⟨j, by omega, v3, H3, u / 128, rfl, pre ++ [u % 128 + 128], ?_, by omega, by omega, by omega, ?_, by simp; omega⟩
        · simpa using nk.to m3 c3 k3
        · rw [← he, hv]; simp
    · have hv : vb j u = [u] := by cases j <;> simp only [vb]; rw [if_neg (by omega)]
      have hw8 : IntKind.u8.wrap u = u := by rw [wrap_u8]; omega
      simp [hu, hw8]
      have nk : New8 H (H2 ++ [.cells [.int .u8 u] .rw]) v (bs ++ pre) := nw.keep (.app _ _)
      refine Hx.mapp (nk.1.append (b8_new (cs := [u]) rfl rfl (by simp)) Nat.one_pos Nat.one_pos u8s_one (by simpa using hs)) ?_
      rintro ⟨v3, H3⟩ ⟨m3, c3, k3⟩
      rw [← u8s_app] at m3
      simp only at m3 c3 k3
      simp
      have := nk.to m3 c3 k3
      rw [List.append_assoc, ← hv, he] at this
      exact this
/-- What is read at the beginning; 0 and 0: nothing. -/
def got (st : Bool) (bs : List Int) : Int × Nat := (rdn st bs 0 0).getD (0, 0)
theorem drop_getD {l : List Int} {i : Nat} (h : i < l.length) : l.drop i = l.getD i 0 :: l.drop (i + 1) := by
  rw [List.drop_eq_getElem_cons h, List.getD_eq_getElem?_getD, List.getElem?_eq_getElem h]
  rfl
theorem more_up {i : Nat} (hi : i ≤ 9) {x c : Int} (h0 : 0 ≤ x) (h1 : x < pp i) : 0 ≤ more i x c ∧ more i x c < pp (i + 1) := by
  by_cases h8 : i ≤ 8
  · exact more_lt h8 h0 h1
  · obtain rfl : i = 9 := by omega
    have := more_hi (i := 9) (by omega) (c := c) h0 h1
    have h10 : pp (9 + 1) = 1180591620717411303424 := by decide
    omega
theorem take_ok (hb : B8 H b bs) (hB : Byt bs) (hl : bs.length ≤ 1000000) : Hx (callA ap (k + 20) (.func 77 [] []) [b] 0 H) fun r => r = (.tuple [.int .i64 (got false bs).1, .int .i64 ((got false bs).2 : Nat)], H) := by
  rw [hx_go fn77 rfl, b77]
  obtain ⟨a, c, s, rfl⟩ := hb.len8
  simp [f77, b77]
  refine hx_down (fun j s' => ∃ (i : Nat) (x : Int), s' = ⟨sp 42 [(0, .slice a bs.length c s), (4, .int .u64 x), (5, .int .i64 i)], H, []⟩ ∧ 0 ≤ x ∧ x < pp i ∧ i + j = 10 ∧ rdn false (bs.drop i) i x = rdn false bs 0 0) (j := 10) ?_ (by omega) ⟨0, 0, rfl, by omega, by decide, rfl, rfl⟩
  rintro j _ ⟨i, x, rfl, h0, h1, hj, he⟩
  by_cases hlt : i < bs.length
  · by_cases h10 : i < 10
    · have hx := more_up (i := i) (by omega) (c := bs.getD i 0) h0 h1
      have hh := more_hi (i := i) (by omega) (c := bs.getD i 0) h0 h1
      have hc := hB.get i
      have hw7 : IntKind.i64.wrap (7 * (i : Int)) = 7 * (i : Int) := wrap_i64 (by omega) (by omega)
      have hw1 : IntKind.i64.wrap ((i : Int) + 1) = ((i + 1 : Nat) : Int) := by rw [wrap_i64 (by omega) (by omega)]; omega
      have hn7 : ¬ 7 * (i : Int) < 0 := by omega
      have ho := or_step (i := i) (by omega) h0 h1 hc.1 hc.2 rfl
      have hu := unz_go _ hh.1 hh.2
      obtain ⟨b0, o, c0, l0, e0, g1, g2⟩ := hb.get8 hlt
      injection e0 with e1 e2 e3 e4
      subst e1 e3 e4
      rw [drop_getD hlt] at he
      simp only [rdn] at he
      rw [if_neg (by omega), if_neg (by simp)] at he
      generalize bs.getD i 0 = cc at *
      have hd10 : (i : Int) < 10 := by omega
      have hi1 : (i : Int) + 1 = ((i + 1 : Nat) : Int) := by omega
      by_cases h128 : cc < 128
      · rw [if_pos h128] at he
        simp [hlt, hd10, g1, g2, hw7, hn7, ho, h128, hu, hw1, got, ← he]
      · rw [if_neg h128] at he
        simp [hlt, hd10, g1, g2, hw7, hn7, ho, h128, hu, hw1]
        exact ⟨j - 1, by omega, i + 1, more i x cc, rfl, hx.1, hx.2, by omega, he⟩
    · have hd10 : ¬ (i : Int) < 10 := by omega
      rw [rdn_ten _ _ (by omega)] at he
      simp [hlt, hd10, got, ← he]
  · rw [List.drop_of_length_le (by omega)] at he
    have he : none = rdn false bs 0 0 := he
    simp [hlt, got, ← he]
theorem rnum_ok (hb : B8 H b bs) (hB : Byt bs) (hl : bs.length ≤ 1000000) {at_ : Nat} (ha : at_ ≤ bs.length) : Hx (callA ap (k + 20) (.func 95 [] []) [b, .int .i64 at_] 0 H) fun r =>
    r = (.tuple (match rdn true (bs.drop at_) 0 0 with | some r => [.int .i64 r.1, .int .i64 ((at_ + r.2 : Nat) : Int)] | none => [.int .i64 0, .int .i64 (-1)]), H) := by
  rw [hx_go fn95 rfl, b95]
  obtain ⟨a, c, s, rfl⟩ := hb.len8
  simp [f95, b95]
  refine hx_down (fun j s' => ∃ (i : Nat) (x : Int), s' = ⟨sp 70 [(0, .slice a bs.length c s), (1, .int .i64 at_), (6, .int .u64 x), (7, .int .i64 i)], H, []⟩ ∧ 0 ≤ x ∧ x < pp i ∧ i + j = 10 ∧ rdn true (bs.drop (at_ + i)) i x = rdn true (bs.drop at_) 0 0) (j := 10) ?_ (by omega) ⟨0, 0, rfl, by omega, by decide, rfl, rfl⟩
  rintro j _ ⟨i, x, rfl, h0, h1, hj, he⟩
  by_cases h10 : i < 10
  · obtain ⟨m, hm⟩ : ∃ m, m = at_ + i := ⟨_, rfl⟩
    obtain ⟨z, hz⟩ : ∃ z : Int, z = i := ⟨_, rfl⟩
    rw [← hm] at he
    rw [← hz]
    have hd10 : z < 10 := by omega
    have hwa : IntKind.i64.wrap ((at_ : Int) + z) = (m : Int) := by rw [wrap_i64 (by omega) (by omega)]; omega
    by_cases hlt : m < bs.length
    · have hx := more_up (i := i) (by omega) (c := bs.getD m 0) h0 h1
      have hh := more_hi (i := i) (by omega) (c := bs.getD m 0) h0 h1
      have hc := hB.get m
      have hw7 : IntKind.i64.wrap (7 * z) = 7 * z := wrap_i64 (by omega) (by omega)
      have hw1 : IntKind.i64.wrap (z + 1) = ((i + 1 : Nat) : Int) := by rw [wrap_i64 (by omega) (by omega)]; omega
      have hwb : IntKind.i64.wrap ((m : Int) + 1) = ((at_ + (i + 1) : Nat) : Int) := by rw [wrap_i64 (by omega) (by omega)]; omega
      have hn7 : ¬ 7 * z < 0 := by omega
      have ho := or_step (i := i) (by omega) h0 h1 hc.1 hc.2 (z := 7 * z) (by rw [hz])
      have hod := unz_ref_odd _ hh.1 hh.2
      have hev := unz_ref_even _ hh.1 hh.2
      obtain ⟨b0, o, c0, l0, e0, g1, g2⟩ := hb.get8 hlt
      injection e0 with e1 e2 e3 e4
      subst e1 e3 e4
      rw [drop_getD hlt] at he
      simp only [rdn] at he
      rw [if_neg (by omega), show m + 1 = at_ + (i + 1) by omega] at he
      generalize bs.getD m 0 = cc at *
      have q9 : ∀ q : Prop, [Decidable q] → ((i = 9) = q) → decide (z = 9) = decide q := fun q _ e => by rw [decide_eq_decide, ← e]; omega
      by_cases hq : i = 9 ∧ 1 < cc ∨ cc = 0 ∧ 0 < i
      · rw [if_pos ⟨trivial, hq⟩] at he
        by_cases t9 : i = 9
        · have d9 := q9 True (eq_true t9)
          by_cases t1 : 1 < cc
          · simp [hlt, hd10, g1, g2, hwa, d9, t1, ← he]
          · have t0 : cc = 0 := by omega
            have ti : 0 < z := by omega
            simp [hlt, hd10, g1, g2, hwa, d9, t0, ti, ← he]
        · have d9 := q9 False (eq_false t9)
          have t0 : cc = 0 := by omega
          have ti : 0 < z := by omega
          simp [hlt, hd10, g1, g2, hwa, d9, t0, ti, ← he]
      · rw [if_neg (fun h => hq h.2)] at he
        by_cases t9 : i = 9
        · have d9 := q9 True (eq_true t9)
          have t1 : ¬ 1 < cc := by omega
          have t0 : ¬ cc = 0 := by omega
          have t128 : cc < 128 := by omega
          rw [if_pos t128] at he
          by_cases o1 : iand .u64 (more i x cc) 1 = 1
          · have hod := hod o1
            simp [hlt, hd10, g1, g2, hwa, d9, t1, t0, hw7, hn7, ho, t128, o1, hod, hwb, ← he]
          · have hev := hev o1
            simp [hlt, hd10, g1, g2, hwa, d9, t1, t0, hw7, hn7, ho, t128, o1, hev, hwb, ← he]
        · have d9 := q9 False (eq_false t9)
          by_cases t0 : cc = 0
          · have ti : ¬ 0 < z := by omega
            subst t0
            rw [if_pos (by decide)] at he
            by_cases o1 : iand .u64 (more i x 0) 1 = 1
            · have hod := hod o1
              simp [hlt, hd10, g1, g2, hwa, d9, ti, hw7, hn7, ho, o1, hod, hwb, ← he]
            · have hev := hev o1
              simp [hlt, hd10, g1, g2, hwa, d9, ti, hw7, hn7, ho, o1, hev, hwb, ← he]
          · by_cases t128 : cc < 128
            · rw [if_pos t128] at he
              by_cases o1 : iand .u64 (more i x cc) 1 = 1
              · have hod := hod o1
                simp [hlt, hd10, g1, g2, hwa, d9, t0, hw7, hn7, ho, t128, o1, hod, hwb, ← he]
              · have hev := hev o1
                simp [hlt, hd10, g1, g2, hwa, d9, t0, hw7, hn7, ho, t128, o1, hev, hwb, ← he]
            · rw [if_neg t128] at he
              simp [hlt, hd10, g1, g2, hwa, d9, t0, hw7, hn7, ho, t128, hw1]
              exact ⟨j - 1, by omega, i + 1, more i x cc, rfl, hx.1, hx.2, by omega, he⟩
    · rw [List.drop_of_length_le (by omega)] at he
      have he : none = rdn true (bs.drop at_) 0 0 := he
      simp [hd10, hwa, hlt, ← he]
  · have hd10 : ¬ (i : Int) < 10 := by omega
    rw [rdn_ten _ _ (by omega)] at he
    simp [hd10, ← he]
end
end Go.Proofs.Ytcmpldjoggeceaa.T
end
section
/-! Decks: numbers that are drawn. Nothing is told of them but their bounds. -/
set_option linter.unusedVariables false
set_option linter.unusedSimpArgs false
set_option maxHeartbeats 4000000
set_option maxRecDepth 100000
namespace Go.Proofs.Ytcmpldjoggeceaa.T
open Go Go.Ab
def U64 (n : Int) : Prop := 0 ≤ n ∧ n < 18446744073709551616
def u64s (l : List Int) : List AV := l.map (AV.int .u64)
@[simp] theorem u64s_len {l : List Int} : (u64s l).length = l.length := by simp [u64s]
/-- A deck, of which at most n numbers were drawn. -/
def Dk (H : AH) (p n : Nat) : Prop := ∃ (v : AV) (L : List Int) (i : Nat), H[p]? = some (.cells [v, .int .i64 i] .rw) ∧ SL H 1 v (u64s L) ∧ (∀ x ∈ L, U64 x) ∧ (∀ b ∈ blk v, b < p) ∧ i ≤ n
theorem Dk.chg {H H' : AH} {p n : Nat} {F : List Nat} (h : Dk H p n) (c : Chg F H H') (hF : ∀ i ∈ F, p < i) : Dk H' p n := by
  obtain ⟨v, L, i, h1, h2, h3, h4, h5⟩ := h
  exact ⟨v, L, i, c.get h1 (fun hp => by have := hF p hp; omega), h2.chg c (fun b hb hf => by have := hF b hf; have := h4 b hb; omega), h3, h4, h5⟩
theorem Dk.keep {H H' : AH} {p n : Nat} (h : Dk H p n) (c : Chg [] H H') : Dk H' p n := h.chg c (by simp)
theorem Dk.more {H : AH} {p n m : Nat} (h : Dk H p n) (hm : n ≤ m) : Dk H p m := by
  obtain ⟨v, L, i, h1, h2, h3, h4, h5⟩ := h
  exact ⟨v, L, i, h1, h2, h3, h4, by omega⟩
theorem Dk.lt {H : AH} {p n : Nat} (h : Dk H p n) : p < H.length := by
  obtain ⟨v, L, i, h1, _⟩ := h
  exact lt_of_get h1
section
variable {k p n : Nat} {H : AH}
theorem next_ok (h : Dk H p n) (hn : n ≤ 1000000) : Hx (callA ap (k + 1) (.func 52 [] []) [.ptr (some (p, 0))] 0 H) fun r => ∃ x, r.1 = .int .u64 x ∧ U64 x ∧ Dk r.2 p (n + 1) ∧ Chg [p] H r.2 := by
  obtain ⟨v, L, i, h1, h2, h3, h4, h5⟩ := h
  rw [hx_go fn52 rfl, b52]
  obtain ⟨a, c, s, rfl⟩ := h2.form1
  have hw : IntKind.i64.wrap ((i : Int) + 1) = ((i + 1 : Nat) : Int) := by rw [wrap_i64 (by omega) (by omega)]; omega
  have fin : ∀ {H2 : AH}, Chg [] H H2 → Dk (H2.set p (.cells [.slice a (u64s L).length c s, .int .i64 ((i + 1 : Nat) : Int)] .rw)) p (n + 1) ∧ Chg [p] H (H2.set p (.cells [.slice a (u64s L).length c s, .int .i64 ((i + 1 : Nat) : Int)] .rw)) := fun {H2} c2 => by
    have g := c2.get h1 (by simp)
    refine ⟨⟨_, L, i + 1, List.getElem?_set_self (lt_of_get g), (h2.keep c2).chg (.set _ _ _) (fun b hb => by have := h4 b hb; simp; omega), h3, h4, by omega⟩, c2.nil.trans (.set _ _ _) (by simp)⟩
  simp [f52, b52]
  refine hx_drawn dc52_2 fun H1 c1 hl1 hd1 => ?_
  have g1 := rowOf_rw (c1.get h1 (by simp))
  by_cases hi : i < L.length
  · simp [d52_2, eqV, g1, hi]
    refine hx_drawn dc52_3 fun H2 c2 hl2 hd2 => ?_
    have c2 := c1.tr c2
    have g2 := c2.get h1 (by simp)
    obtain ⟨b0, o0, c0, r0, e0, k1, k2⟩ := (h2.keep c2).get1 (i := i) (by simpa using hi)
    injection e0 with z1 z2 z3 z4
    subst z1 z3 z4
    have k2 : r0[o0 + i]? = some (.int .u64 L[i]) := by rw [k2]; simp [u64s, hi]
    have hx : U64 L[i] := h3 _ (List.getElem_mem hi)
    generalize L[i] = x at *
    have f2 := fin c2
    simp only [u64s_len] at f2
    simp [d52_3, eqV, rowOf_rw g2, rowRw_rw g2, k1, k2, hi, hw]
    exact ⟨hx, f2⟩
  · have f1 := fin c1
    simp only [u64s_len] at f1
    have g2 := c1.get h1 (by simp)
    simp [d52_2, eqV, g1, hi, rowRw_rw g2, hw]
    exact ⟨⟨by omega, by omega⟩, f1⟩
theorem wrap_u64_in {x : Int} (h : U64 x) : IntKind.u64.wrap x = x := wraps_u64 x h.1 (by have := h.2; omega)
theorem n_ok (h : Dk H p n) (hn : n ≤ 1000000) {m : Int} (h1 : 1 ≤ m) (h2 : m ≤ 1000000000000) : Hx (callA ap (k + 2) (.func 29 [] []) [.ptr (some (p, 0)), .int .i64 m] 0 H) fun r => ∃ x, r.1 = .int .i64 x ∧ (0 ≤ x ∧ x < m) ∧ Dk r.2 p (n + 1) ∧ Chg [p] H r.2 := by
  rw [hx_go fn29 rfl, b29]
  simp [f29, b29]
  refine Hx.mapp (next_ok h hn) ?_
  rintro ⟨r, H2⟩ ⟨x, e, hx, hd, c⟩
  simp only at e hd c
  subst e
  have hm : IntKind.u64.wrap m = m := wrap_u64_in ⟨by omega, by omega⟩
  have hm0 : ¬ m = 0 := by omega
  have ht : x.tmod m = x % m := Int.tmod_eq_emod_of_nonneg hx.1
  have h3 := Int.emod_nonneg x hm0
  have h4 := Int.emod_lt_of_pos x (b := m) (by omega)
  have hw : IntKind.i64.wrap (x % m) = x % m := wrap_i64 (by omega) (by omega)
  simp [hm, hm0, ht, hw]
  exact ⟨⟨h3, h4⟩, hd, c⟩
theorem yes_ok (h : Dk H p n) (hn : n ≤ 1000000) {m : Int} (h1 : 1 ≤ m) (h2 : m ≤ 1000000000000) : Hx (callA ap (k + 3) (.func 26 [] []) [.ptr (some (p, 0)), .int .i64 m] 0 H) fun r => ∃ b, r.1 = .bool b ∧ Dk r.2 p (n + 1) ∧ Chg [p] H r.2 := by
  rw [hx_go fn26 rfl, b26]
  simp [f26, b26]
  refine Hx.mapp (n_ok h hn h1 h2) ?_
  rintro ⟨r, H2⟩ ⟨x, e, hx, hd, c⟩
  simp only at e hd c
  subst e
  simp
  exact ⟨Decidable.em _ |>.symm, hd, c⟩
theorem some_ok (h : Dk H p n) (hn : n ≤ 1000000) : Hx (callA ap (k + 2) (.func 38 [] []) [.ptr (some (p, 0))] 0 H) fun r => ∃ x, r.1 = .int .i64 x ∧ (0 ≤ x ∧ x ≤ 9223372036854775807) ∧ Dk r.2 p (n + 1) ∧ Chg [p] H r.2 := by
  rw [hx_go fn38 rfl, b38]
  simp [f38, b38]
  refine Hx.mapp (next_ok h hn) ?_
  rintro ⟨r, H2⟩ ⟨x, e, hx, hd, c⟩
  simp only at e hd c
  subst e
  obtain ⟨hx0, hx1⟩ := hx
  have hm : ∀ y : Int, 0 ≤ y → y ≤ 9223372036854775807 → IntKind.i64.wrap y = y := fun y a b => wrap_i64 (by omega) b
  have s1 : ishr .u64 x 1 = x / 2 := shr1 x
  have s3 : ishr .u64 x 3 = x / 8 := by
    show x.fdiv 8 = x / 8
    rw [Int.fdiv_eq_ediv_of_nonneg _ (by decide)]
  have t8 : ∀ q : Int, (x / 8).tmod q = (x / 8) % q := fun q => Int.tmod_eq_emod_of_nonneg (by omega)
  have w1 := hm (x / 2) (by omega) (by omega)
  have w2 := hm (x / 8 % 1000000000000) (by omega) (by omega)
  have w3 := hm (x / 8 % 2) (by omega) (by omega)
  have w4 := hm (x / 8 % 5000) (by omega) (by omega)
  by_cases q0 : x.tmod 8 = 0
  · simp [q0, s1, w1]
    exact ⟨by omega, hd, c⟩
  by_cases q1 : x.tmod 8 = 1
  · simp [q1, s3, t8, w2]
    exact ⟨by omega, hd, c⟩
  by_cases q2 : x.tmod 8 = 2
  · simp [q2, s3, t8, w3]
    exact ⟨by omega, hd, c⟩
  · simp [q0, q1, q2, s3, t8, w4]
    exact ⟨by omega, hd, c⟩
theorem of_ok {v : AV} {L : List Int} (h : SL H 1 v (u64s L)) (hL : ∀ x ∈ L, U64 x) : Hx (callA ap (k + 1) (.func 9 [] []) [v] 0 H) fun r => r.1 = .ptr (some (H.length, 0)) ∧ Dk r.2 H.length 0 ∧ Chg [] H r.2 := by
  rw [hx_go fn9 rfl, b9]
  obtain ⟨a, c, s, rfl⟩ := h.form1
  simp only [u64s_len] at h
  simp [f9, b9]
  refine ⟨⟨.slice a L.length c s, L, 0, by simp, by simpa using h.keep (.app _ _), hL, fun b hb => ?_, Nat.le_refl 0⟩, .app _ _⟩
  exact h.lt b hb
end
end Go.Proofs.Ytcmpldjoggeceaa.T
end
section
/-! Loops over functions: what stays, one rule for both ways; rows of a slice at once. -/
set_option linter.unusedVariables false
set_option linter.unusedSimpArgs false
namespace Go.Ab
section
variable {l : Nat} {H H' : AH}
theorem get_ls {b : Nat} {cs : List AV} {m : Md} (h : H[b]? = some (.cells cs m)) (g : Chg [] H H' ∨ LS l H H') : H'[b]? = some (.cells cs m) := by
  rcases g with g | g
  · exact g.get h (by simp)
  · exact g.get h
theorem chg_ls {F : List Nat} {H0 : AH} (h : Chg F H0 H) (hl : H0.length ≤ l) (g : Chg [] H H' ∨ LS l H H') : Chg F H0 H' := by
  rcases g with g | g
  · exact h.tr g
  · exact g.chg h hl
theorem sl_ls {sz : Nat} {v : AV} {cs : List AV} (h : SL H sz v cs) (g : Chg [] H H' ∨ LS l H H') : SL H' sz v cs := by
  rcases g with g | g
  · exact h.keep g
  · exact g.sl h
theorem mine_ls {sz : Nat} {v : AV} {cs : List AV} (h : Mine H sz v cs) (g : Chg [] H H' ∨ LS l H H') : Mine H' sz v cs := by
  rcases g with g | g
  · exact h.keep g
  · exact g.mine h
theorem loop_lt (h : isLoop H[l]?) : l < H.length := by
  rcases Nat.lt_or_ge l H.length with h' | h'
  · exact h'
  · rw [List.getElem?_eq_none h'] at h; exact h.elim
end
theorem set_row {H : AH} {p b : Nat} {r : List AV} (h : rowOf H b = some r) (hn : p ≠ b) (X : AB) : rowOf (H.set p X) b = some r :=
  (Chg.set H p X).row h (by simp; omega)
theorem Chg.set_new {H0 H : AH} {F : List Nat} (c : Chg F H0 H) {p : Nat} (hp : H0.length ≤ p) (X : AB) : Chg F H0 (H.set p X) := c.trans (.set _ _ _) (by simp; omega)
/-- A slice of single cells, its row at once. -/
theorem SL.all1 {H : AH} {v : AV} {cs : List AV} (h : SL H 1 v cs) (h0 : cs ≠ []) : ∃ b o c r, v = .slice (some (b, o)) cs.length c 1 ∧ rowOf H b = some r ∧ o + cs.length ≤ r.length ∧ ∀ i, i < cs.length → r[o + i]? = cs[i]? := by
  cases h with
  | nil c s => exact absurd rfl h0
  | at_ b o n c l cs hz h1 h2 h3 h4 =>
    have hn : n = cs.length := by rw [← h3]; simp; omega
    subst hn
    refine ⟨b, o, c, l, rfl, h1, by omega, fun i hi => ?_⟩
    rw [← h3, List.getElem?_take_of_lt (by omega), List.getElem?_drop]
end Go.Ab
end
section
/-! Rows of numbers in bytes. -/
namespace Go.Ab
@[simp] theorem rowRw_z0 {H X : AH} : rowRw (H ++ X) 0 H.length = rowRw X 0 0 := rowRw_new0 (Nat.zero_le _)
@[simp] theorem rowRw_z {H X : AH} {i : Nat} : rowRw (H ++ X) 0 (H.length + i) = rowRw X 0 i := rowRw_new (Nat.zero_le _)
/-- A slice of bytes of a string. -/
theorem strN_u8s {l : List Int} (h : Byt l) : (strN l).data.toList.map (fun b => AV.int .u8 b.toNat) = u8s l := by
  rw [strN_data, List.map_map]
  unfold u8s
  refine List.map_congr_left fun x hx => ?_
  have := h x hx
  simp
  omega
theorem strN_get {l : List Int} (h : Byt l) {i : Nat} (hi : i < l.length) : ((strN l).data.toList[i]?).map (fun c => AV.int .u8 c.toNat) = some (.int .u8 (l.getD i 0)) := by
  have := congrArg (fun l => l[i]?) (strN_u8s h)
  simp only [List.getElem?_map] at this
  rw [this]
  simp [u8s, List.getElem?_eq_getElem hi]
def encs (l : List Int) : List Int := (l.map enc).flatten
theorem encs_app (a b : List Int) : encs (a ++ b) = encs a ++ encs b := by simp [encs]
theorem encs_one (n : Int) : encs [n] = enc n := by simp [encs]
theorem encs_cons (n : Int) (l : List Int) : encs (n :: l) = enc n ++ encs l := by simp [encs]
theorem encs_take {l : List Int} {i : Nat} (hi : i < l.length) : encs (l.take (i + 1)) = encs (l.take i) ++ enc (l.getD i 0) := by
  rw [List.take_add_one, List.getElem?_eq_getElem hi, encs_app]
  simp [encs, hi]
theorem encs_len : ∀ (l : List Int), (encs l).length ≤ 10 * l.length
  | [] => by simp [encs]
  | n :: l => by
    have h1 := encs_len l
    have h2 := (enc_len n).2
    rw [encs_cons]
    simp; omega
theorem encs_byt {l : List Int} (h : ∀ n ∈ l, I64 n) : Byt (encs l) := fun x hx => by
  simp only [encs, List.mem_flatten, List.mem_map] at hx
  obtain ⟨_, ⟨n, hn, rfl⟩, hx⟩ := hx
  exact enc_byt (h n hn) x hx
theorem encs_nil_iff {l : List Int} (h : encs l = []) : l = [] := by
  cases l with
  | nil => rfl
  | cons n l =>
    rw [encs_cons] at h
    have := (enc_len n).1
    simp at h
    rw [h.1] at this
    simp at this
theorem encs_inj : ∀ {a b : List Int}, (∀ n ∈ a, I64 n) → (∀ n ∈ b, I64 n) → encs a = encs b → a = b
  | [], b, _, _, h => (encs_nil_iff h.symm).symm
  | x :: a, b, ha, hb, h => by
    cases b with
    | nil => exact encs_nil_iff h
    | cons y b =>
      rw [encs_cons, encs_cons] at h
      have h1 := rdn_one true (ha x (by simp)) (encs a)
      rw [h, rdn_one true (hb y (by simp))] at h1
      simp only [Option.some.injEq, Prod.mk.injEq] at h1
      rw [h1.1] at h ⊢
      rw [encs_inj (fun n hn => ha n (by simp [hn])) (fun n hn => hb n (by simp [hn])) (List.append_cancel_left h)]
theorem own_step {bs l : List Int} {at_ kk : Nat} {v : Int} (hB : Byt bs) (h : encs l = bs.take at_) (hr : rdn true (bs.drop at_) 0 0 = some (v, kk)) : encs (l ++ [v]) = bs.take (at_ + kk) := by
  obtain ⟨h1, h2, h3⟩ := rdn_own (hB.drop at_) hr
  rw [encs_app, encs_one, h, List.take_add]
  congr 1
  rw [h3, h2, List.take_left' rfl]
end Go.Ab
end
section
/-! Configs, as data: which are right. -/
set_option linter.unusedVariables false
set_option linter.unusedSimpArgs false
namespace Go.Proofs.Ytcmpldjoggeceaa.T
open Go Go.Ab
structure I4 where
  b : Int
  p : Int
  r : Int
  s : Int
  deriving DecidableEq
def I4.cs (x : I4) : List AV := [.int .i64 x.b, .int .i64 x.p, .int .i64 x.r, .int .i64 x.s]
structure Cf where
  ins : List I4
  skin : Int
  times : Int
  port : Int
  bid : Int
  lot : Int
  hmin : Int
  deriving DecidableEq
def insC (l : List I4) : List AV := (l.map I4.cs).flatten
@[simp] theorem insC_len {l : List I4} : (insC l).length = 4 * l.length := by
  unfold insC
  rw [flatten_len (sz := 4) _ (by simp only [List.mem_map]; rintro _ ⟨a, _, rfl⟩; rfl), List.length_map, Nat.mul_comm]
abbrev SI (H : AH) (v : AV) (l : List I4) : Prop := SL H 4 v (insC l)
section
variable {k : Nat} {H : AH} {v : AV} {l : List I4}
theorem SI.form (h : SI H v l) : ∃ a c s, v = .slice a l.length c s := by
  have := sle_form (es := l.map I4.cs) h (by simp only [List.mem_map]; rintro _ ⟨a, _, rfl⟩; rfl) (by omega)
  simpa using this
theorem SI.get (h : SI H v l) {i : Nat} {x : I4} (hx : l[i]? = some x) : ∃ b o c r, v = .slice (some (b, o)) l.length c 4 ∧ rowOf H b = some r ∧ o + i * 4 + 4 ≤ r.length ∧ (r.drop (o + i * 4)).take 4 = x.cs ∧ ∀ j, j < 4 → r[o + i * 4 + j]? = x.cs[j]? := by
  have := sle_get (es := l.map I4.cs) h (by simp only [List.mem_map]; rintro _ ⟨a, _, rfl⟩; rfl) (by omega) (i := i) (x := x.cs) (by simp [hx])
  simpa using this
def Cf.cs (c : Cf) (v : AV) : List AV := [v, .int .i64 c.skin, .int .i64 c.times, .int .i64 c.port, .int .i64 c.bid, .int .i64 c.lot, .int .i64 c.hmin]
def inB (n lo hi : Int) : Bool := decide (lo ≤ n) && decide (n ≤ hi)
def rightI (x : I4) : Bool := inB x.b 0 3 && (inB x.p 1 1000000000000 && (inB x.r 0 1000000000 && inB x.s 0 1000000000))
def rightR (c : Cf) : Bool := decide (0 ≤ c.skin) && (inB c.times 0 4 && (inB c.port 0 1000000 && (inB c.bid 0 1000000 && (inB c.lot 1 4611686018427387904 && decide (0 ≤ c.hmin)))))
/-- Which may be. -/
def rightC (c : Cf) : Bool := inB c.ins.length 1 6 && (c.ins.all rightI && rightR c)
theorem all_take {p : I4 → Bool} {l : List I4} {i : Nat} {x : I4} (hx : l[i]? = some x) : (l.take (i + 1)).all p = ((l.take i).all p && p x) := by
  rw [List.take_add_one, hx]
  simp only [Option.toList_some, List.all_append, List.all_cons, List.all_nil, Bool.and_true]
theorem all_not {p : I4 → Bool} {l : List I4} {i : Nat} {x : I4} (hx : l[i]? = some x) (h : p x = false) : l.all p = false := by
  have hi := (List.getElem?_eq_some_iff.1 hx)
  obtain ⟨hi, rfl⟩ := hi
  cases e : l.all p with
  | false => rfl
  | true => exact absurd (List.all_eq_true.1 e _ (List.getElem_mem hi)) (by simp [h])
theorem get_d {l : List I4} {i : Nat} (hi : i < l.length) : l[i]? = some l[i] := List.getElem?_eq_getElem hi
def I4.ns (x : I4) : List Int := [x.b, x.p, x.r, x.s]
/-- A config's numbers. -/
def Cf.ends (c : Cf) : List Int := [c.skin, c.times, c.port, c.bid, c.lot, c.hmin]
def Cf.zero : Cf := ⟨[], 0, 0, 0, 0, 0, 0⟩
theorem i64_in {n lo hi : Int} (h : inB n lo hi = true) (h1 : -9223372036854775808 ≤ lo) (h2 : hi ≤ 9223372036854775807) : I64 n := by
  simp [inB] at h
  unfold I64; omega
theorem right_len {c : Cf} (h : rightC c = true) : 1 ≤ c.ins.length ∧ c.ins.length ≤ 6 := by
  simp only [rightC, Bool.and_eq_true] at h
  have := h.1
  simp [inB] at this
  omega
/-- What is beyond the bounds but for Skin and HedgeMin, of which only the lower bound is asked. -/
def FitC (c : Cf) : Prop := I64 c.skin ∧ I64 c.hmin
end
end Go.Proofs.Ytcmpldjoggeceaa.T
end
section
/-! Configs: which are right. -/
set_option linter.unusedVariables false
set_option linter.unusedSimpArgs false
set_option maxHeartbeats 4000000
set_option maxRecDepth 100000
namespace Go.Proofs.Ytcmpldjoggeceaa.T.Pl
open Go Go.Ab
section
variable {k : Nat} {H : AH} {v : AV} {l : List I4}
theorem in_ok {n lo hi : Int} : callA ap (k + 1) (.func 78 [] []) [.int .i64 n, .int .i64 lo, .int .i64 hi] 0 H = some (.bool (inB n lo hi), H) := by
  rw [← Hx_eq, hx_go fn78 rfl, b78]
  by_cases h : lo ≤ n
  · simp [f78, b78, h, inB]
  · simp [f78, b78, h, inB]
theorem within_ok {n lo hi : Int} : callA ap (k + 1) (.func 82 [] []) [.int .i64 n, .int .i64 lo, .int .i64 hi] 0 H = some (.bool (inB n lo hi), H) := by
  rw [← Hx_eq, hx_go fn82 rfl, b82]
  by_cases h : lo ≤ n
  · simp [f82, b82, h, inB]
  · simp [f82, b82, h, inB]
theorem right_ok {c : Cf} (h : SI H v c.ins) (hl : c.ins.length ≤ 1000000) (hk : c.ins.length + 10 < k) : Hx (callA ap k (.func 68 [] []) [.agg (c.cs v)] 0 H) fun r => r.1 = .bool (rightC c) ∧ Chg [] H r.2 := by
  obtain ⟨k, rfl⟩ : ∃ k', k = k' + 2 := ⟨k - 2, by omega⟩
  rw [hx_go fn68 rfl, b68]
  obtain ⟨a, cp, s, rfl⟩ := h.form
  cases h6 : inB c.ins.length 1 6 with
  | false =>
    simp [f68, b68, Cf.cs, in_ok, h6, rightC]
    exact .app _ _
  | true =>
    obtain ⟨l, hll⟩ : ∃ l, l = c.ins := ⟨_, rfl⟩
    simp [f68, b68, Cf.cs, in_ok, h6]
    obtain ⟨H1, e1⟩ : ∃ H1, H1 = H ++ [.cells (c.cs (.slice a c.ins.length cp s)) .rw] := ⟨_, rfl⟩
    have c1 : Chg [] H H1 := by rw [e1]; exact .app _ _
    have g0 : H1[H.length]? = some (.cells (c.cs (.slice a c.ins.length cp s)) .rw) := by rw [e1]; simp
    simp only [Cf.cs] at e1 g0
    rw [← e1]
    refine hx_up (fun i s' => ∃ H', s' = ⟨sp 68 [(1, .ptr (some (H.length, 0))), (11, .slice a c.ins.length cp s), (12, .int .i64 c.ins.length), (13, .int .i64 i)], H', []⟩ ∧ Chg [] H1 H' ∧ (c.ins.take i).all rightI = true) c.ins.length ?_ ?_ (by omega) ⟨H1, rfl, .refl, by simp⟩
    · rintro i _ hi ⟨H', rfl, c2, hq⟩
      have h' := h.keep (c1.tr c2)
      obtain ⟨b, o, c0, r, e0, g1, g2, g3, -⟩ := SI.get h' (get_d hi)
      injection e0 with z1 z2 z3 z4
      subst z1 z3 z4
      have hw : IntKind.i64.wrap ((i : Int) + 1) = ((i + 1 : Nat) : Int) := by rw [wrap_i64 (by omega) (by omega)]; omega
      have ht := all_take (p := rightI) (get_d hi)
      have hn := all_not (p := rightI) (get_d hi)
      rw [hq] at ht
      have hlt : ((i : Int) < (c.ins.length : Int)) := by omega
      generalize c.ins[i] = x at *
      simp only [I4.cs] at g3
      have c3 : Chg [] H (H' ++ [AB.cells [.int .i64 x.b, .int .i64 x.p, .int .i64 x.r, .int .i64 x.s] .rw]) := (c1.tr c2).tr (.app _ _)
      have c4 : Chg [] H1 (H' ++ [AB.cells [.int .i64 x.b, .int .i64 x.p, .int .i64 x.r, .int .i64 x.s] .rw]) := c2.tr (.app _ _)
      cases q1 : inB x.b 0 3 with
      | false =>
        have hn := hn (by simp [rightI, q1])
        simp [hi, g1, g2, g3, in_ok, q1, rightC, hn, c3]
      | true =>
        cases q2 : inB x.p 1 1000000000000 with
        | false =>
          have hn := hn (by simp [rightI, q2])
          simp [hi, g1, g2, g3, in_ok, q1, q2, rightC, hn, c3]
        | true =>
          cases q3 : inB x.r 0 1000000000 with
          | false =>
            have hn := hn (by simp [rightI, q3])
            simp [hi, g1, g2, g3, in_ok, q1, q2, q3, rightC, hn, c3]
          | true =>
            cases q4 : inB x.s 0 1000000000 with
            | false =>
              have hn := hn (by simp [rightI, q4])
              simp [hi, g1, g2, g3, in_ok, q1, q2, q3, q4, rightC, hn, c3]
            | true =>
              simp [hi, g1, g2, g3, in_ok, q1, q2, q3, q4, hw]
              exact ⟨_, rfl, c4, List.all_eq_true.1 (by rw [ht]; simp [rightI, q1, q2, q3, q4])⟩
    · rintro _ ⟨H', rfl, c2, hq⟩
      rw [List.take_length] at hq
      have g := rowOf_rw (c2.get g0 (by simp))
      have c3 := c1.tr c2
      by_cases q0 : 0 ≤ c.skin
      · cases q1 : inB c.times 0 4 with
        | false => simp [g, in_ok, q0, q1, rightC, rightR, c3]
        | true =>
          cases q2 : inB c.port 0 1000000 with
          | false => simp [g, in_ok, q0, q1, q2, rightC, rightR, c3]
          | true =>
            cases q3 : inB c.bid 0 1000000 with
            | false => simp [g, in_ok, q0, q1, q2, q3, rightC, rightR, c3]
            | true =>
              cases q4 : inB c.lot 1 4611686018427387904 with
              | false => simp [g, in_ok, q0, q1, q2, q3, q4, rightC, rightR, c3]
              | true => simp [g, in_ok, q0, q1, q2, q3, q4, rightC, rightR, c3, h6, hq]
      · simp [g, in_ok, q0, rightC, rightR, c3]
theorem rright_ok {c : Cf} (h : SI H v c.ins) (hl : c.ins.length ≤ 1000000) (hk : c.ins.length + 10 < k) : Hx (callA ap k (.func 49 [] []) [.agg (c.cs v)] 0 H) fun r => r.1 = .bool (rightC c) ∧ Chg [] H r.2 := by
  obtain ⟨k, rfl⟩ : ∃ k', k = k' + 2 := ⟨k - 2, by omega⟩
  rw [hx_go fn49 rfl, b49]
  obtain ⟨a, cp, s, rfl⟩ := h.form
  obtain ⟨n, hn⟩ : ∃ n, n = c.ins.length := ⟨_, rfl⟩
  by_cases hlo : (c.ins.length : Int) < 1
  · have h6 : inB c.ins.length 1 6 = false := by unfold inB; simp; omega
    simp [f49, b49, Cf.cs, hlo, h6, rightC]
    exact .app _ _
  by_cases hhi : (6 : Int) < (c.ins.length : Int)
  · have h6 : inB c.ins.length 1 6 = false := by unfold inB; simp; omega
    simp [f49, b49, Cf.cs, hlo, hhi, h6, rightC]
    exact .app _ _
  · have h6 : inB c.ins.length 1 6 = true := by unfold inB; simp; omega
    simp [f49, b49, Cf.cs, hlo, hhi]
    obtain ⟨H1, e1⟩ : ∃ H1, H1 = H ++ [.cells (c.cs (.slice a c.ins.length cp s)) .rw] := ⟨_, rfl⟩
    have c1 : Chg [] H H1 := by rw [e1]; exact .app _ _
    have g0 : H1[H.length]? = some (.cells (c.cs (.slice a c.ins.length cp s)) .rw) := by rw [e1]; simp
    simp only [Cf.cs] at e1 g0
    rw [← e1]
    refine hx_up (fun i s' => ∃ H', s' = ⟨sp 77 [(1, .ptr (some (H.length, 0))), (3, .int .i64 i)], H', []⟩ ∧ Chg [] H1 H' ∧ (c.ins.take i).all rightI = true) c.ins.length ?_ ?_ (by omega) ⟨H1, rfl, .refl, by simp⟩
    · rintro i _ hi ⟨H', rfl, c2, hq⟩
      have h' := h.keep (c1.tr c2)
      obtain ⟨b, o, c0, r, e0, g1, g2, g3, -⟩ := SI.get h' (get_d hi)
      injection e0 with z1 z2 z3 z4
      subst z1 z3 z4
      have hw : IntKind.i64.wrap ((i : Int) + 1) = ((i + 1 : Nat) : Int) := by rw [wrap_i64 (by omega) (by omega)]; omega
      have ht := all_take (p := rightI) (get_d hi)
      have hn := all_not (p := rightI) (get_d hi)
      rw [hq] at ht
      have hlt : ((i : Int) < (c.ins.length : Int)) := by omega
      generalize c.ins[i] = x at *
      simp only [I4.cs] at g3
      have g := rowOf_rw (c2.get g0 (by simp))
      have c3 : Chg [] H (H' ++ [AB.cells [.int .i64 x.b, .int .i64 x.p, .int .i64 x.r, .int .i64 x.s] .rw]) := (c1.tr c2).tr (.app _ _)
      have c4 : Chg [] H1 (H' ++ [AB.cells [.int .i64 x.b, .int .i64 x.p, .int .i64 x.r, .int .i64 x.s] .rw]) := c2.tr (.app _ _)
      cases q1 : inB x.b 0 3 with
      | false =>
        have hn := hn (by simp [rightI, q1])
        simp [hi, g, g1, g2, g3, within_ok, q1, rightC, hn, c3]
      | true =>
        cases q2 : inB x.p 1 1000000000000 with
        | false =>
          have hn := hn (by simp [rightI, q2])
          simp [hi, g, g1, g2, g3, within_ok, q1, q2, rightC, hn, c3]
        | true =>
          cases q3 : inB x.r 0 1000000000 with
          | false =>
            have hn := hn (by simp [rightI, q3])
            simp [hi, g, g1, g2, g3, within_ok, q1, q2, q3, rightC, hn, c3]
          | true =>
            cases q4 : inB x.s 0 1000000000 with
            | false =>
              have hn := hn (by simp [rightI, q4])
              simp [hi, g, g1, g2, g3, within_ok, q1, q2, q3, q4, rightC, hn, c3]
            | true =>
              simp [hi, g, g1, g2, g3, within_ok, q1, q2, q3, q4, hw]
              exact ⟨_, rfl, c4, List.all_eq_true.1 (by rw [ht]; simp [rightI, q1, q2, q3, q4])⟩
    · rintro _ ⟨H', rfl, c2, hq⟩
      rw [List.take_length] at hq
      have g := rowOf_rw (c2.get g0 (by simp))
      have c3 := c1.tr c2
      by_cases q0 : 0 ≤ c.skin
      · cases q1 : inB c.times 0 4 with
        | false => simp [g, within_ok, q0, q1, rightC, rightR, c3]
        | true =>
          cases q2 : inB c.port 0 1000000 with
          | false => simp [g, within_ok, q0, q1, q2, rightC, rightR, c3]
          | true =>
            cases q3 : inB c.bid 0 1000000 with
            | false => simp [g, within_ok, q0, q1, q2, q3, rightC, rightR, c3]
            | true =>
              cases q4 : inB c.lot 1 4611686018427387904 with
              | false => simp [g, within_ok, q0, q1, q2, q3, q4, rightC, rightR, c3]
              | true => simp [g, within_ok, q0, q1, q2, q3, q4, rightC, rightR, c3, h6, hq]
      · simp [g, within_ok, q0, rightC, rightR, c3]
end
end Go.Proofs.Ytcmpldjoggeceaa.T.Pl
end
section
/-! Configs: which are the same; lists of ints. -/
set_option linter.unusedVariables false
set_option linter.unusedSimpArgs false
set_option maxHeartbeats 4000000
set_option maxRecDepth 100000
namespace Go.Proofs.Ytcmpldjoggeceaa.T.Pl
open Go Go.Ab
def i64s (l : List Int) : List AV := l.map (AV.int .i64)
@[simp] theorem i64s_len {l : List Int} : (i64s l).length = l.length := by simp [i64s]
@[simp] theorem i64s_one {l : List Int} : (i64s l).all AV.one = true := by simp [i64s]
theorem i64s_app {a b : List Int} : i64s (a ++ b) = i64s a ++ i64s b := by simp [i64s]
abbrev SN (H : AH) (v : AV) (l : List Int) : Prop := SL H 1 v (i64s l)
section
variable {k : Nat} {H : AH} {v w : AV}
theorem SN.form {l : List Int} (h : SN H v l) : ∃ a c s, v = .slice a l.length c s := by
  have := h.form1
  simpa using this
theorem SN.get {l : List Int} (h : SN H v l) {i : Nat} (hi : i < l.length) : ∃ b o c r, v = .slice (some (b, o)) l.length c 1 ∧ rowOf H b = some r ∧ r[o + i]? = some (.int .i64 (l.getD i 0)) := by
  obtain ⟨b, o, c, r, e, h1, h2⟩ := h.get1 (i := i) (by simpa using hi)
  refine ⟨b, o, c, r, by simpa using e, h1, ?_⟩
  rw [h2]
  simp [i64s, List.getElem?_eq_getElem hi]
theorem eqN {a b : List Int} (hl : a.length = b.length) (h : ∀ i, i < b.length → a.getD i 0 = b.getD i 0) : a = b := eq_getD hl h
def sameR (a b : Cf) : Bool := decide (a.skin = b.skin) && (decide (a.times = b.times) && (decide (a.port = b.port) && (decide (a.bid = b.bid) && (decide (a.lot = b.lot) && decide (a.hmin = b.hmin)))))
theorem sameR_eq {a b : Cf} (h : a.ins = b.ins) : sameR a b = decide (a = b) := by
  obtain ⟨_, _, _, _, _, _, _⟩ := a
  obtain ⟨_, _, _, _, _, _, _⟩ := b
  simp only at h
  subst h
  rw [Bool.eq_iff_iff]
  simp [sameR]
theorem get_ne {l m : List I4} {i : Nat} (h1 : i < l.length) (h2 : i < m.length) (h : ¬ l[i] = m[i]) : ¬ l = m := fun e => h (by subst e; rfl)
theorem eqI {l m : List I4} (hl : l.length = m.length) (h : ∀ i (h1 : i < l.length) (h2 : i < m.length), l[i] = m[i]) : l = m := List.ext_getElem hl h
theorem eqI4 {p q : I4} : eqF ap 0 [(0, 3), (1, 2), (2, 2), (3, 2)] [AV.int .i64 p.b, AV.int .i64 p.p, AV.int .i64 p.r, AV.int .i64 p.s] [AV.int .i64 q.b, AV.int .i64 q.p, AV.int .i64 q.r, AV.int .i64 q.s] = some (decide (p = q)) := by
  obtain ⟨_, _, _, _⟩ := p
  obtain ⟨_, _, _, _⟩ := q
  simp [eqF, eqC]
  rw [Bool.eq_iff_iff]
  simp
theorem rsame_ok {a b : Cf} (ha : SI H v a.ins) (hb : SI H w b.ins) (hl : a.ins.length ≤ 1000000) (hl2 : b.ins.length ≤ 1000000) (hk : a.ins.length + 20 < k) : Hx (callA ap k (.func 18 [] []) [.agg (a.cs v), .agg (b.cs w)] 0 H) fun r => r.1 = .bool (decide (a = b)) ∧ Chg [] H r.2 := by
  obtain ⟨k, rfl⟩ : ∃ k', k = k' + 1 := ⟨k - 1, by omega⟩
  rw [hx_go fn18 rfl, b18]
  obtain ⟨x, c, s, rfl⟩ := SI.form ha
  obtain ⟨x', c', s', rfl⟩ := SI.form hb
  by_cases hn : a.ins.length = b.ins.length
  · simp [f18, b18, Cf.cs, hn]
    obtain ⟨H1, e9⟩ : ∃ H1, H1 = H ++ [.cells (a.cs (.slice x a.ins.length c s)) .rw, .cells (b.cs (.slice x' b.ins.length c' s')) .rw] := ⟨_, rfl⟩
    have c1 : Chg [] H H1 := by rw [e9]; exact .app _ _
    have ga : H1[H.length]? = some (.cells (a.cs (.slice x a.ins.length c s)) .rw) := by rw [e9]; simp
    have gb : H1[H.length + 1]? = some (.cells (b.cs (.slice x' b.ins.length c' s')) .rw) := by rw [e9]; simp
    simp only [Cf.cs, hn] at e9 ga gb
    rw [← e9]
    refine hx_up (fun i s1 => ∃ H', s1 = ⟨sp 71 [(2, .ptr (some (H.length, 0))), (3, .ptr (some (H.length + 1, 0))), (5, .int .i64 i)], H', []⟩ ∧ Chg [] H1 H' ∧ ∀ j (h1 : j < a.ins.length) (h2 : j < b.ins.length), j < i → a.ins[j] = b.ins[j]) b.ins.length ?_ ?_ (by omega) ⟨H1, rfl, .refl, by simp⟩
    · rintro i _ hi ⟨H', rfl, c2, hq⟩
      have hw : IntKind.i64.wrap ((i : Int) + 1) = ((i + 1 : Nat) : Int) := by rw [wrap_i64 (by omega) (by omega)]; omega
      have gA := rowOf_rw (c2.get ga (by simp))
      have gB := rowOf_rw (c2.get gb (by simp))
      simp [hi, gA]
      refine hx_drawn dc18_6 fun H2 c3 hl hd => ?_
      have c4 := c2.tr c3
      have gA := rowOf_rw (c4.get ga (by simp))
      have gB := rowOf_rw (c4.get gb (by simp))
      have hi' : i < a.ins.length := hn ▸ hi
      obtain ⟨b0, o0, c0, r0, e0, g0, h0, g1, -⟩ := SI.get (ha.keep (c1.tr c4)) (get_d hi')
      obtain ⟨b1, o1, c1', r1, e1, g2, h1, g3, -⟩ := SI.get (hb.keep (c1.tr c4)) (get_d hi)
      injection e0 with z1 z2 z3 z4
      subst z1 z3 z4
      injection e1 with z1 z2 z3 z4
      subst z1 z3 z4
      have hup : a.ins[i] = b.ins[i] → ∀ j (h1 : j < a.ins.length) (h2 : j < b.ins.length), j < i + 1 → a.ins[j] = b.ins[j] := fun he j h1 h2 hj => by
        rcases Nat.lt_succ_iff_lt_or_eq.1 hj with hj | rfl
        · exact hq j h1 h2 hj
        · exact he
      have hne : ¬ a.ins[i] = b.ins[i] → ¬ a = b := fun h e => get_ne hi' hi h (by rw [e])
      have c5 := c1.tr c4
      generalize a.ins[i] = p at *
      generalize b.ins[i] = q at *
      simp only [I4.cs] at g1 g3
      by_cases he : p = q
      · subst he
        simp [d18_6, hi, gA, gB, g0, g1, g2, g3, h0, h1, hw, eqV, eqI4]
        exact ⟨H2, rfl, c4, hup rfl⟩
      · simp [d18_6, hi, gA, gB, g0, g1, g2, g3, h0, h1, hw, hne he, c5, eqV, eqI4, he]
    · rintro _ ⟨H', rfl, c2, hq⟩
      have he : a.ins = b.ins := eqI hn (fun j h1 h2 => hq j h1 h2 h2)
      have ga2 := rowOf_rw (c2.get ga (by simp))
      have gb2 := rowOf_rw (c2.get gb (by simp))
      have c3 := c1.tr c2
      by_cases q0 : a.skin = b.skin
      case neg =>
        have hne : ¬ a = b := fun e => q0 (by rw [e])
        simp [ga2, gb2, c3, q0, hne]
      by_cases q1 : a.times = b.times
      case neg =>
        have hne : ¬ a = b := fun e => q1 (by rw [e])
        simp [ga2, gb2, c3, q0, q1, hne]
      by_cases q2 : a.port = b.port
      case neg =>
        have hne : ¬ a = b := fun e => q2 (by rw [e])
        simp [ga2, gb2, c3, q0, q1, q2, hne]
      by_cases q3 : a.bid = b.bid
      case neg =>
        have hne : ¬ a = b := fun e => q3 (by rw [e])
        simp [ga2, gb2, c3, q0, q1, q2, q3, hne]
      by_cases q4 : a.lot = b.lot
      case neg =>
        have hne : ¬ a = b := fun e => q4 (by rw [e])
        simp [ga2, gb2, c3, q0, q1, q2, q3, q4, hne]
      by_cases q5 : a.hmin = b.hmin
      case neg =>
        have hne : ¬ a = b := fun e => q5 (by rw [e])
        simp [ga2, gb2, c3, q0, q1, q2, q3, q4, q5, hne]
      have he2 : a = b := by
        obtain ⟨_, _, _, _, _, _, _⟩ := a
        obtain ⟨_, _, _, _, _, _, _⟩ := b
        simp_all
      simp [ga2, gb2, c3, q0, q1, q2, q3, q4, q5, he2]
  · have hne : ¬ a = b := fun e => hn (by rw [e])
    have hn' : ¬ (a.ins.length : Int) = (b.ins.length : Int) := by omega
    simp [f18, b18, Cf.cs, hn', hne]
    exact .app _ _
end
end Go.Proofs.Ytcmpldjoggeceaa.T.Pl
end
section
/-! Configs: what a bucket has. -/
set_option linter.unusedVariables false
set_option linter.unusedSimpArgs false
set_option maxHeartbeats 4000000
set_option maxRecDepth 100000
namespace Go.Proofs.Ytcmpldjoggeceaa.T.Pl
open Go Go.Ab
/-- The places of a bucket's instruments. -/
def bk (n : Int) : Nat → List I4 → List Int
  | _, [] => []
  | i, x :: r => if x.b = n then (i : Int) :: bk n (i + 1) r else bk n (i + 1) r
theorem bk_snoc (n : Int) (x : I4) : ∀ (l : List I4) (i : Nat), bk n i (l ++ [x]) = bk n i l ++ (if x.b = n then [((i + l.length : Nat) : Int)] else [])
  | [], i => by simp [bk]
  | y :: l, i => by
    simp only [List.cons_append, bk, bk_snoc n x l (i + 1), List.length_cons]
    rw [show i + 1 + l.length = i + (l.length + 1) by omega]
    split <;> simp
theorem bk_take {n : Int} {l : List I4} {i : Nat} (hi : i < l.length) : bk n 0 (l.take (i + 1)) = bk n 0 (l.take i) ++ (if l[i].b = n then [(i : Int)] else []) := by
  rw [List.take_add_one, List.getElem?_eq_getElem hi]
  simp only [Option.toList_some, bk_snoc]
  rw [List.length_take, Nat.min_eq_left (by omega), Nat.zero_add]
theorem bk_le (n : Int) : ∀ (l : List I4) (i : Nat), (bk n i l).length ≤ l.length
  | [], i => by simp [bk]
  | y :: l, i => by
    have := bk_le n l (i + 1)
    simp only [bk]
    split
    · simp; omega
    · simp; omega
def bkC (c : Cf) (n : Int) : List Int := if rightC c then bk n 0 c.ins else []
theorem sn_new {H X : AH} {cs : List Int} {n : Nat} {c : Option Nat} (hX : X = H ++ [.cells (i64s cs) .rw]) (hn : n = cs.length) (h4 : ∀ k, c = some k → n ≤ k) : SN X (.slice (some (H.length, 0)) n c 1) cs := by
  subst hX hn
  exact SL.mk Nat.one_pos (rowOf_rw (by simp)) (by simp) h4
/-- An own, new slice of ints. -/
def NewN (H H' : AH) (v : AV) (l : List Int) : Prop := Mine H' 1 v (i64s l) ∧ Chg [] H H' ∧ ∀ i ∈ blk v, H.length ≤ i
theorem NewN.to {H0 H H' : AH} {v v' : AV} {bs cs : List Int} (h : NewN H0 H v bs) (m : Mine H' 1 v' (i64s cs)) (c : Chg (blk v) H H') (k : ∀ i ∈ blk v', i ∈ blk v ∨ H.length ≤ i) : NewN H0 H' v' cs :=
  ⟨m, h.2.1.trans c (fun i hi => .inr (h.2.2 i hi)), fun i hi => (k i hi).elim (h.2.2 i) (fun e => Nat.le_trans h.2.1.1 e)⟩
theorem NewN.keep {H0 H H' : AH} {v : AV} {bs : List Int} (h : NewN H0 H v bs) (c : Chg [] H H') : NewN H0 H' v bs := ⟨h.1.keep c, h.2.1.tr c, h.2.2⟩
theorem NewN.back {H0 H1 H : AH} {v : AV} {bs : List Int} (h : NewN H1 H v bs) (c : Chg [] H0 H1) : NewN H0 H v bs := ⟨h.1, c.tr h.2.1, fun i hi => Nat.le_trans c.1 (h.2.2 i hi)⟩
theorem NewN.push {H0 H HH : AH} {x y : AV} {l zs : List Int} (h : NewN H0 H x l) (hy : SN HH y zs) (c : Chg [] H HH) (hr : (l.length + zs.length) * 8 ≤ room) : Hx (aappend 0 HH 1 8 x y) fun r => NewN H0 r.2 r.1 (l ++ zs) := by
  have g := h.keep c
  refine (g.1.append hy Nat.one_pos (by omega) i64s_one (by simpa using hr)).mono ?_
  rintro ⟨r, H2⟩ ⟨m, c2, k2⟩
  rw [← i64s_app] at m
  exact g.to m c2 k2
section
variable {k : Nat} {H : AH} {v w : AV}
end
end Go.Proofs.Ytcmpldjoggeceaa.T.Pl
end
section
/-! Configs: their bytes. -/
set_option linter.unusedVariables false
set_option linter.unusedSimpArgs false
set_option maxHeartbeats 4000000
set_option maxRecDepth 100000
namespace Go.Proofs.Ytcmpldjoggeceaa.T.Pl
open Go Go.Ab
def flatI (l : List I4) : List Int := (l.map I4.ns).flatten
@[simp] theorem flatI_len {l : List I4} : (flatI l).length = 4 * l.length := by
  unfold flatI
  rw [flatten_len (sz := 4) _ (by simp only [List.mem_map]; rintro _ ⟨a, _, rfl⟩; rfl), List.length_map, Nat.mul_comm]
theorem flatI_take {l : List I4} {i : Nat} (hi : i < l.length) : flatI (l.take (i + 1)) = flatI (l.take i) ++ l[i].ns := by
  rw [List.take_add_one, List.getElem?_eq_getElem hi]
  unfold flatI
  rw [List.map_append, List.flatten_append]
  congr 1
def flat (c : Cf) : List Int := ((c.ins.length : Int) :: flatI c.ins) ++ c.ends
@[simp] theorem flat_len {c : Cf} : (flat c).length = 4 * c.ins.length + 7 := by simp [flat, Cf.ends]
def encs (l : List Int) : List Int := (l.map enc).flatten
theorem encs_app (a b : List Int) : encs (a ++ b) = encs a ++ encs b := by simp [encs]
theorem encs_one (n : Int) : encs [n] = enc n := by simp [encs]
theorem encs_take {l : List Int} {i : Nat} (hi : i < l.length) : encs (l.take (i + 1)) = encs (l.take i) ++ enc (l.getD i 0) := by
  rw [List.take_add_one, List.getElem?_eq_getElem hi, encs_app]
  simp [encs, hi]
theorem encs_len : ∀ (l : List Int), (encs l).length ≤ 10 * l.length
  | [] => by simp [encs]
  | n :: l => by
    have h1 := encs_len l
    have h2 := (enc_len n).2
    have : encs (n :: l) = enc n ++ encs l := by simp [encs]
    rw [this]
    simp; omega
theorem encs_byt {l : List Int} (h : ∀ n ∈ l, I64 n) : Byt (encs l) := fun x hx => by
  simp only [encs, List.mem_flatten, List.mem_map] at hx
  obtain ⟨_, ⟨n, hn, rfl⟩, hx⟩ := hx
  exact enc_byt (h n hn) x hx
theorem flat_i64 {c : Cf} (h : rightC c = true) (hf : FitC c) : ∀ n ∈ flat c, I64 n := by
  have hl := right_len h
  simp only [rightC, rightR, Bool.and_eq_true, List.all_eq_true, rightI] at h
  obtain ⟨-, h1, -, h2, h3, h4, h5, -⟩ := h
  intro n hn
  simp only [flat, Cf.ends, List.cons_append, List.mem_cons, List.mem_append, flatI, List.mem_flatten, List.mem_map, List.not_mem_nil, or_false] at hn
  rcases hn with rfl | ⟨_, ⟨x, hx, rfl⟩, hn⟩ | rfl | rfl | rfl | rfl | rfl | rfl
  · unfold I64; omega
  · obtain ⟨q1, q2, q3, q4⟩ := h1 x hx
    simp only [I4.ns, List.mem_cons, List.not_mem_nil, or_false] at hn
    rcases hn with rfl | rfl | rfl | rfl
    · exact i64_in q1 (by omega) (by omega)
    · exact i64_in q2 (by omega) (by omega)
    · exact i64_in q3 (by omega) (by omega)
    · exact i64_in q4 (by omega) (by omega)
  · exact hf.1
  · exact i64_in h2 (by omega) (by omega)
  · exact i64_in h3 (by omega) (by omega)
  · exact i64_in h4 (by omega) (by omega)
  · exact i64_in h5 (by omega) (by omega)
  · exact hf.2
/-- A config's bytes. -/
def putB (c : Cf) : List Int := encs (flat c)
theorem putB_len {c : Cf} (h : rightC c = true) : (putB c).length ≤ 310 := by
  have h1 := encs_len (flat c)
  have := right_len h
  rw [flat_len] at h1
  unfold putB; omega
theorem SN.here {H : AH} {b o n : Nat} {c : Option Nat} {r : List AV} {cs : List Int} (h1 : rowOf H b = some r) (h2 : o + n ≤ r.length) (h3 : (r.drop o).take n = i64s cs) (h4 : ∀ k, c = some k → n ≤ k) : SN H (.slice (some (b, o)) n c 1) cs :=
  .at_ b o n c r _ Nat.one_pos h1 (by omega) (by rw [Nat.mul_one]; exact h3) h4
section
variable {k : Nat} {H : AH} {v w : AV}
theorem put_ok {c : Cf} (h : SI H v c.ins) (hl : c.ins.length ≤ 1000000) (hf : FitC c) (hk : c.ins.length + 100 < k) : Hx (callA ap k (.func 39 [] []) [.agg (c.cs v)] 0 H) fun r => ∃ x, r.1 = .tuple [x, .int .i64 (if rightC c then 0 else 1)] ∧ New8 H r.2 x (if rightC c then putB c else []) := by
  obtain ⟨k, rfl⟩ : ∃ k', k = k' + 21 := ⟨k - 21, by omega⟩
  rw [hx_go fn39 rfl, b39]
  simp [f39, b39, Cf.cs]
  obtain ⟨H1, e1⟩ : ∃ H1, H1 = H ++ [.cells (c.cs v) .rw] := ⟨_, rfl⟩
  have c1 : Chg [] H H1 := by rw [e1]; exact .app _ _
  have g1 : H1[H.length]? = some (.cells (c.cs v) .rw) := by rw [e1]; simp
  have hcs : [v, AV.int .i64 c.skin, AV.int .i64 c.times, AV.int .i64 c.port, AV.int .i64 c.bid, AV.int .i64 c.lot, AV.int .i64 c.hmin] = c.cs v := rfl
  rw [hcs, ← e1]
  refine Hx.mapp (right_ok (h.keep c1) hl (by omega)) ?_
  rintro ⟨r, H2⟩ ⟨e, c2⟩
  simp only at e c2
  subst e
  have g1 := c2.get g1 (by simp)
  have c3 := c1.tr c2
  have h2 := h.keep c3
  obtain ⟨a, cp, s, rfl⟩ := h.form
  simp only [Cf.cs] at g1
  clear hcs
  cases hr : rightC c with
  | false =>
    simp [hr]
    exact ⟨.nil _ _, c3, by simp⟩
  | true =>
    have h6 := right_len hr
    have nw : NewN H2 (H2 ++ [.cells [.int .i64 (c.ins.length : Int)] .rw]) (.slice (some (H2.length, 0)) 1 (some 1) 1) ((c.ins.length : Int) :: flatI (c.ins.take 0)) :=
      ⟨.row _ 1 (some 1) [.int .i64 (c.ins.length : Int)] _ Nat.one_pos (by simp) (by simp) (by simp [i64s, flatI]) (by simp), .app _ _, by simp⟩
    simp [rowOf_rw g1, rowOf_rw (nw.2.1.get g1 (by simp))]
    refine hx_up (fun i s' => ∃ H' x, s' = ⟨sp 62 [(1, .ptr (some (H.length, 0))), (4, x), (18, .slice a c.ins.length cp s), (19, .int .i64 c.ins.length), (20, .int .i64 i)], H', []⟩ ∧ NewN H2 H' x ((c.ins.length : Int) :: flatI (c.ins.take i))) c.ins.length ?_ ?_ (by omega) ⟨_, _, rfl, nw⟩
    · clear nw
      rintro i _ hi ⟨H', x, rfl, hx⟩
      have hw : IntKind.i64.wrap ((i : Int) + 1) = ((i + 1 : Nat) : Int) := by rw [wrap_i64 (by omega) (by omega)]; omega
      obtain ⟨b0, o0, c0, r0, e0, g0, g3, g4, -⟩ := SI.get (h2.keep hx.2.1) (get_d hi)
      injection e0 with z1 z2 z3 z4
      subst z1 z3 z4
      have ht := flatI_take hi
      generalize c.ins[i] = p at *
      simp only [I4.cs] at g4
      have sn : SN (H' ++ [.cells [.int .i64 p.b, .int .i64 p.p, .int .i64 p.r, .int .i64 p.s] .rw, .cells [.int .i64 p.b, .int .i64 p.p, .int .i64 p.r, .int .i64 p.s] .rw]) (.slice (some (H'.length + 1, 0)) 4 (some 4) 1) p.ns := .at_ _ 0 4 _ [.int .i64 p.b, .int .i64 p.p, .int .i64 p.r, .int .i64 p.s] _ Nat.one_pos (by simp) (by simp) (by simp [i64s, I4.ns]) (by simp)
      simp [hi, g0, g3, g4]
      refine Hx.mapp (hx.push sn (.app _ _) (by simp [I4.ns]; unfold room; omega)) ?_
      rintro ⟨y, H3⟩ hy
      rw [List.cons_append, ← ht] at hy
      simp [hw]
      exact ⟨H3, y, rfl, hy⟩
    · clear nw
      rintro _ ⟨H', x, rfl, hx⟩
      rw [List.take_length] at hx
      simp [rowOf_rw (hx.2.1.get g1 (by simp))]
      have sn : SN (H' ++ [.cells [.int .i64 c.skin, .int .i64 c.times, .int .i64 c.port, .int .i64 c.bid, .int .i64 c.lot, .int .i64 c.hmin] .rw]) (.slice (some (H'.length, 0)) 6 (some 6) 1) c.ends := .at_ _ 0 6 _ [.int .i64 c.skin, .int .i64 c.times, .int .i64 c.port, .int .i64 c.bid, .int .i64 c.lot, .int .i64 c.hmin] _ Nat.one_pos (by simp) (by simp) (by simp [i64s, Cf.ends]) (by simp)
      refine Hx.mapp (hx.push sn (.app _ _) (by simp [Cf.ends]; unfold room; omega)) ?_
      rintro ⟨y, H3⟩ hy
      have hy : NewN H2 H3 y (flat c) := hy
      clear sn hx
      have hsl := hy.1.sl
      have hc := c3.tr hy.2.1
      obtain ⟨ya, yc, ys, rfl⟩ := SN.form hsl
      have hlen : (flat c).length ≤ 31 := by rw [flat_len]; omega
      have hI := flat_i64 hr hf
      have hpb : putB c = encs (flat c) := rfl
      rw [hpb]
      generalize flat c = L at *
      simp
      refine hx_up (fun i s' => ∃ H' z, s' = ⟨sp 62 [(7, z), (51, .slice ya L.length yc ys), (52, .int .i64 L.length), (53, .int .i64 i)], H', []⟩ ∧ New8 H3 H' z (encs (L.take i))) L.length ?_ ?_ (by omega) ⟨H3, _, rfl, .nil _ _, .refl, by simp⟩
      · rintro i _ hi ⟨H', z, rfl, hz⟩
        have hw : IntKind.i64.wrap ((i : Int) + 1) = ((i + 1 : Nat) : Int) := by rw [wrap_i64 (by omega) (by omega)]; omega
        obtain ⟨b0, o0, c0, r0, e0, g0, g3⟩ := SN.get (hsl.keep hz.2.1) hi
        injection e0 with z1 z2 z3 z4
        subst z1 z3 z4
        have ht := encs_take hi
        have hle := encs_len (L.take i)
        rw [List.length_take, Nat.min_eq_left (by omega)] at hle
        have hn : I64 (L.getD i 0) := hI _ (by rw [List.getD_eq_getElem?_getD, List.getElem?_eq_getElem hi]; exact List.getElem_mem hi)
        generalize L.getD i 0 = n at *
        simp [hi, g0, g3]
        refine Hx.mapp (number_ok hz.1.sl (by omega) hn) ?_
        rintro ⟨z', H4⟩ hz'
        rw [← ht] at hz'
        simp [hw]
        exact ⟨H4, z', rfl, hz'.1, hz.2.1.tr hz'.2.1, fun i hi => Nat.le_trans hz.2.1.1 (hz'.2.2 i hi)⟩
      · rintro _ ⟨H', z, rfl, hz⟩
        rw [List.take_length] at hz
        simp
        exact ⟨hz.1, hc.tr hz.2.1, fun i hi => Nat.le_trans hc.1 (hz.2.2 i hi)⟩
theorem rput_ok {c : Cf} (h : SI H v c.ins) (hl : c.ins.length ≤ 1000000) (hf : FitC c) (hk : c.ins.length + 100 < k) : Hx (callA ap k (.func 27 [] []) [.agg (c.cs v)] 0 H) fun r => ∃ x, r.1 = .tuple [x, .int .i64 (if rightC c then 0 else 1)] ∧ New8 H r.2 x (if rightC c then putB c else []) := by
  obtain ⟨k, rfl⟩ : ∃ k', k = k' + 21 := ⟨k - 21, by omega⟩
  rw [hx_go fn27 rfl, b27]
  simp [f27, b27, Cf.cs]
  obtain ⟨H1, e1⟩ : ∃ H1, H1 = H ++ [.cells (c.cs v) .rw] := ⟨_, rfl⟩
  have c1 : Chg [] H H1 := by rw [e1]; exact .app _ _
  have g1 : H1[H.length]? = some (.cells (c.cs v) .rw) := by rw [e1]; simp
  have hcs : [v, AV.int .i64 c.skin, AV.int .i64 c.times, AV.int .i64 c.port, AV.int .i64 c.bid, AV.int .i64 c.lot, AV.int .i64 c.hmin] = c.cs v := rfl
  rw [hcs, ← e1]
  refine Hx.mapp (rright_ok (h.keep c1) hl (by omega)) ?_
  rintro ⟨r, H2⟩ ⟨e, c2⟩
  simp only at e c2
  subst e
  have g1 := c2.get g1 (by simp)
  have c3 := c1.tr c2
  have h2 := h.keep c3
  obtain ⟨a, cp, s, rfl⟩ := h.form
  simp only [Cf.cs] at g1
  clear hcs
  cases hr : rightC c with
  | false =>
    simp [hr]
    exact ⟨.nil _ _, c3, by simp⟩
  | true =>
    have h6 := right_len hr
    simp [rowOf_rw g1]
    refine Hx.mapp (rnumber_ok (bs := []) (.nil _ _) (by simp) (n := (c.ins.length : Int)) ⟨by omega, by omega⟩) ?_
    rintro ⟨x, H3⟩ hx
    have hx : New8 H2 H3 x (encs ((c.ins.length : Int) :: flatI (c.ins.take 0))) := by
      have : encs ((c.ins.length : Int) :: flatI (c.ins.take 0)) = [] ++ enc (c.ins.length : Int) := by simp [encs, flatI]
      rw [this]; exact hx
    have hI := flat_i64 hr hf
    simp
    refine hx_up (fun i s' => ∃ H' x, s' = ⟨sp 67 [(1, .ptr (some (H.length, 0))), (4, x), (5, .int .i64 i)], H', []⟩ ∧ New8 H2 H' x (encs ((c.ins.length : Int) :: flatI (c.ins.take i)))) c.ins.length ?_ ?_ (by omega) ⟨_, _, rfl, hx⟩
    · clear hx
      rintro i _ hi ⟨H', x, rfl, hx⟩
      have hw : IntKind.i64.wrap ((i : Int) + 1) = ((i + 1 : Nat) : Int) := by rw [wrap_i64 (by omega) (by omega)]; omega
      have gx := hx.get (H0 := H) g1
      obtain ⟨b0, o0, c0, r0, e0, g0, g3, g4, -⟩ := SI.get (h2.keep hx.2.1) (get_d hi)
      injection e0 with z1 z2 z3 z4
      subst z1 z3 z4
      have ht := flatI_take hi
      have hle := encs_len ((c.ins.length : Int) :: flatI (c.ins.take i))
      rw [List.length_cons, flatI_len, List.length_take, Nat.min_eq_left (by omega)] at hle
      have hp : ∀ n ∈ c.ins[i].ns, I64 n := fun n hn => hI n (by
        simp only [flat, List.mem_append, List.mem_cons]
        exact .inl (.inr (List.mem_flatten.2 ⟨_, List.mem_map.2 ⟨_, List.getElem_mem hi, rfl⟩, hn⟩)))
      generalize c.ins[i] = p at *
      simp only [I4.cs] at g4
      simp only [I4.ns] at ht hp
      simp [hi, rowOf_rw gx, g0, g3, g4]
      refine hx_drawn dc27_8 fun H4 c4 hl4 hd4 => ?_
      have hb : H4[H'.length]? = some (.cells [.int .i64 p.b, .int .i64 p.p, .int .i64 p.r, .int .i64 p.s] .rw) := c4.get (by simp) (by simp)
      have hx4 := hx.keep ((Chg.app H' _).tr c4)
      simp [d27_8, rowOf_rw hb]
      refine Hx.mapp (rnumber_ok hx4.1.sl (by omega) (hp _ (by simp))) ?_
      rintro ⟨x5, H5⟩ hx5
      have hb5 := hx5.get (H0 := H) hb
      have l1 := enc_len p.b
      have l2 := enc_len p.p
      have l3 := enc_len p.r
      simp
      refine Hx.mapp (rnumber_ok hx5.1.sl (by simp; omega) (hp _ (by simp))) ?_
      rintro ⟨x6, H6⟩ hx6
      have hb6 := hx6.get (H0 := H) hb5
      simp
      refine Hx.mapp (rnumber_ok hx6.1.sl (by simp; omega) (hp _ (by simp))) ?_
      rintro ⟨x7, H7⟩ hx7
      have hb7 := hx7.get (H0 := H) hb6
      simp
      refine Hx.mapp (rnumber_ok hx7.1.sl (by simp; omega) (hp _ (by simp))) ?_
      rintro ⟨x8, H8⟩ hx8
      have hb8 := hx8.get (H0 := H) hb7
      have he : encs ((c.ins.length : Int) :: flatI (c.ins.take (i + 1))) = encs ((c.ins.length : Int) :: flatI (c.ins.take i)) ++ enc p.b ++ enc p.p ++ enc p.r ++ enc p.s := by
        rw [ht, ← List.cons_append, encs_app]
        simp [encs]
      simp [rowOf_rw hb5, rowOf_rw hb6, rowOf_rw hb7, rowOf_rw hb8, hw]
      exact ⟨H8, x8, rfl, by rw [he]; exact hx8.back (((hx4.2.1.tr hx5.2.1).tr hx6.2.1).tr hx7.2.1)⟩
    · clear hx
      rintro _ ⟨H', x, rfl, hx⟩
      rw [List.take_length] at hx
      have gx := hx.get (H0 := H) g1
      have hle := encs_len ((c.ins.length : Int) :: flatI c.ins)
      rw [List.length_cons, flatI_len] at hle
      obtain ⟨H4, e4⟩ : ∃ H4, H4 = H' ++ [.cells [.int .i64 c.skin, .int .i64 c.times, .int .i64 c.port, .int .i64 c.bid, .int .i64 c.lot, .int .i64 c.hmin] .rw] := ⟨_, rfl⟩
      have c4 : Chg [] H' H4 := by rw [e4]; exact .app _ _
      have sn : SN H4 (.slice (some (H'.length, 0)) 6 (some 6) 1) c.ends := .at_ _ 0 6 _ [.int .i64 c.skin, .int .i64 c.times, .int .i64 c.port, .int .i64 c.bid, .int .i64 c.lot, .int .i64 c.hmin] _ Nat.one_pos (by rw [e4]; simp) (by simp) (by simp [i64s, Cf.ends]) (by simp)
      simp [rowOf_rw gx]
      obtain ⟨m, hm⟩ : ∃ m, m = List.length H' := ⟨_, rfl⟩
      rw [← e4, ← hm]
      rw [← hm] at sn
      have hpb : putB c = encs ((c.ins.length : Int) :: flatI c.ins) ++ encs c.ends := by rw [← encs_app]; rfl
      have hI2 : ∀ n ∈ c.ends, I64 n := fun n hn => hI n (by simp only [flat, List.mem_append]; exact .inr hn)
      have h6e : c.ends.length = 6 := rfl
      rw [hpb]
      generalize c.ends = L at *
      refine hx_up (fun i s' => ∃ H' z, s' = ⟨sp 67 [(4, z), (7, .slice (some (m, 0)) 6 (some 6) 1), (8, .int .i64 i)], H', []⟩ ∧ Chg [] H4 H' ∧ New8 H2 H' z (encs ((c.ins.length : Int) :: flatI c.ins) ++ encs (L.take i))) 6 ?_ ?_ (by omega) ⟨H4, x, rfl, .refl, by simpa [encs] using hx.keep c4⟩
      · clear hx
        rintro i _ hi ⟨H5, z, rfl, c5, hz⟩
        have hw : IntKind.i64.wrap ((i : Int) + 1) = ((i + 1 : Nat) : Int) := by rw [wrap_i64 (by omega) (by omega)]; omega
        have hi6 : (i : Int) < 6 := by omega
        obtain ⟨b0, o0, c0, r0, e0, g0, g3⟩ := SN.get (sn.keep c5) (i := i) (by omega)
        rw [h6e] at e0
        injection e0 with z1 z2 z3 z4
        injection z1 with z1
        injection z1 with z1 z5
        subst z1 z5 z3
        rw [Nat.zero_add] at g3
        have ht := encs_take (l := L) (i := i) (by omega)
        have hl2 := encs_len (L.take i)
        rw [List.length_take, Nat.min_eq_left (by omega)] at hl2
        have hn : I64 (L.getD i 0) := hI2 _ (by rw [List.getD_eq_getElem?_getD, List.getElem?_eq_getElem (by omega)]; exact List.getElem_mem _)
        generalize L.getD i 0 = n at *
        simp [hi6, g0, g3]
        refine Hx.mapp (rnumber_ok hz.1.sl (by simp; omega) hn) ?_
        rintro ⟨z', H6⟩ hz'
        rw [List.append_assoc, ← ht] at hz'
        simp [hw]
        exact ⟨H6, z', rfl, c5.tr hz'.2.1, hz'.back hz.2.1⟩
      · clear hx
        rintro _ ⟨H5, z, rfl, c5, hz⟩
        rw [List.take_of_length_le (by omega)] at hz
        simp
        exact hz.back c3
end
end Go.Proofs.Ytcmpldjoggeceaa.T.Pl
end
