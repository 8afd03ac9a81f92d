import Derived.Test.YtinehdoenhodoaaA2
import Derived.Test.YtinehdoenhodoaaAb19
/-! Records: the document's Frame. -/
set_option linter.unusedVariables false
set_option linter.unusedSimpArgs false
set_option maxHeartbeats 4000000
set_option maxRecDepth 100000
namespace Go.Proofs.Ytinehdoenhodoaa.T.Fm
open Go Go.Ab
theorem crcL_nat (bs : List Int) : ∃ n : Nat, crcL bs = n ∧ n < 4294967296 := ixor_nat _ _
theorem low_eq {bs : List Int} : [IntKind.u8.wrap (iand .u32 (crcL bs) 255), IntKind.u8.wrap (iand .u32 (ishr .u32 (crcL bs) 8) 255), IntKind.u8.wrap (iand .u32 (ishr .u32 (crcL bs) 16) 255), IntKind.u8.wrap (ishr .u32 (crcL bs) 24)] = low4 (crcL bs) := by
  obtain ⟨n, h1, h2⟩ := crcL_nat bs
  have a8 := ishr_nat n 8 (by omega)
  have a16 := ishr_nat n 16 (by omega)
  simp only [Int.cast_ofNat_Int] at a8 a16
  unfold low4
  rw [h1]
  have b8 : ishr .u32 (n : Int) 8 = ((n / 2 ^ 8 : Nat) : Int) := a8
  have b16 : ishr .u32 (n : Int) 16 = ((n / 2 ^ 16 : Nat) : Int) := a16
  rw [b8, b16, wrap_and255 h2, wrap_and255 (by omega), wrap_and255 (by omega)]
theorem frame_some {H : AH} {v : AV} {bs : List Int} (h : BS H v bs) (hl : bs.length ≤ 400) (h0 : bs ≠ []) {k lo : Nat} (hlo : lo ≤ H.length) (hk : bs.length + 20 < k) :
    ∃ X s, callA ap k (.func 10 [] []) [v] lo H = some (.tuple [s, .int .i64 0], H ++ X) ∧ BS (H ++ X) s (recB bs) := by
  obtain ⟨k, rfl⟩ : ∃ k', k = k' + 2 := ⟨k - 2, by omega⟩
  obtain ⟨a, c, s, rfl⟩ := h.slice
  obtain ⟨n, hn⟩ : ∃ n, n = bs.length := ⟨_, rfl⟩
  have hpos : 0 < bs.length := List.length_pos_iff.2 h0
  rw [← hn] at h hl hk hpos ⊢
  have h400 : ¬ (400 : Int) < n := by omega
  have hh : (hd2 n).length = 2 := rfl
  have hl4 : (low4 (crcL (hd2 n ++ bs))).length = 4 := rfl
  have q1 := hd_hi hl
  have q2 := hd_lo hl
  have e1 : aappend lo (H ++ [.cells [.int .u8 (IntKind.u8.wrap (ishr .i64 n 8)), .int .u8 (IntKind.u8.wrap n)] .rw]) 1 1 (.slice (some (H.length, 0)) 2 (some 2) 1) (.slice a n c s)
      = some (.slice (some (H.length + 1, 0)) (2 + n) none 1, H ++ [.cells (u8s (hd2 n)) .rw, .cells (u8s (hd2 n ++ bs)) .rw]) := by
    have := append_new (H := H ++ [.cells (u8s (hd2 n)) .rw]) (lo := lo) (n := 2) (m := 2 + n) (c := 2) (bs := hd2 n) (cs := bs) (x := .slice a n c s) (BS.new (H := H) (X := [.cells (u8s (hd2 n)) .rw]) (.inl rfl) (i := 0) rfl hh.symm rfl) (h.app _) hh.symm (by omega) h0 (by unfold room; omega) (by omega)
    simpa [hd2, u8s] using this
  have hb : BS (H ++ [.cells (u8s (hd2 n)) .rw, .cells (u8s (hd2 n ++ bs)) .rw]) (.slice (some (H.length + 1, 0)) (2 + n) none 1) (hd2 n ++ bs) :=
    BS.new (H := H) (X := [.cells (u8s (hd2 n)) .rw, .cells (u8s (hd2 n ++ bs)) .rw]) (.inl rfl) (i := 1) rfl (by simp [hh]; omega) rfl
  have e2 := crc_ok hb (by simp [hh]; omega) (k := k + 1) (lo := lo) (by simp [hh]; omega)
  have hle := @low_eq (hd2 n ++ bs)
  obtain ⟨Y, s', e3, hs'⟩ : ∃ Y s', aappend lo (H ++ [.cells (u8s (hd2 n)) .rw, .cells (u8s (hd2 n ++ bs)) .rw, .cells [.int .u8 (IntKind.u8.wrap (iand .u32 (crcL (hd2 n ++ bs)) 255)), .int .u8 (IntKind.u8.wrap (iand .u32 (ishr .u32 (crcL (hd2 n ++ bs)) 8) 255)), .int .u8 (IntKind.u8.wrap (iand .u32 (ishr .u32 (crcL (hd2 n ++ bs)) 16) 255)), .int .u8 (IntKind.u8.wrap (ishr .u32 (crcL (hd2 n ++ bs)) 24))] .rw]) 1 1 (.slice (some (H.length + 1, 0)) (2 + n) none 1) (.slice (some (H.length + 2, 0)) 4 (some 4) 1)
      = some (s', H ++ Y) ∧ BS (H ++ Y) s' (recB bs) := by
    have e0 : [AV.int .u8 (IntKind.u8.wrap (iand .u32 (crcL (hd2 n ++ bs)) 255)), .int .u8 (IntKind.u8.wrap (iand .u32 (ishr .u32 (crcL (hd2 n ++ bs)) 8) 255)), .int .u8 (IntKind.u8.wrap (iand .u32 (ishr .u32 (crcL (hd2 n ++ bs)) 16) 255)), .int .u8 (IntKind.u8.wrap (ishr .u32 (crcL (hd2 n ++ bs)) 24))] = u8s (low4 (crcL (hd2 n ++ bs))) := by rw [← hle]; rfl
    rw [e0]
    have := append_own (H := H ++ [.cells (u8s (hd2 n)) .rw, .cells (u8s (hd2 n ++ bs)) .rw, .cells (u8s (low4 (crcL (hd2 n ++ bs)))) .rw]) (lo := lo) (n := 2 + n) (m := 2 + n + 4) (b := H.length + 1) (bs := hd2 n ++ bs) (cs := low4 (crcL (hd2 n ++ bs))) (x := .slice (some (H.length + 2, 0)) 4 (some 4) 1)
      (by rw [List.getElem?_append_right (by omega)]; simp) (by omega) (BS.new (H := H) (X := [.cells (u8s (hd2 n)) .rw, .cells (u8s (hd2 n ++ bs)) .rw, .cells (u8s (low4 (crcL (hd2 n ++ bs)))) .rw]) (.inl rfl) (i := 2) rfl hl4.symm rfl) (by simp [hh]; omega) (by simp [low4]) (by rw [hl4]; unfold room; omega) (by rw [hl4])
    refine ⟨_, _, by rw [this, set_new, List.append_assoc], ?_⟩
    have hrec : hd2 n ++ bs ++ low4 (crcL (hd2 n ++ bs)) = recB bs := by unfold recB; rw [← hn]
    rw [hrec]
    refine BS.new (.inl rfl) (i := 3) rfl ?_ (by simp)
    unfold recB; simp [← hn, hh, hl4]; omega
  refine ⟨Y, s', ?_, hs'⟩
  rw [← Hx_eq, hx_go fn10 rfl, b10]
  clear hs' hb hle hk hl hn h
  simp [f10, b10, h400, q1, q2, e1, e2, e3]
theorem append_zero {H : AH} {lo n : Nat} {p : Nat × Nat} {c : Option Nat} {x : AV} (hx : BS H x []) : aappend lo H 1 1 (.slice (some p) n c 1) x = some (.slice (some p) n c 1, H) := by
  have hf := hx.first
  obtain ⟨a', c', s', rfl⟩ := hx.slice
  have hs := hx.sz
  unfold aappend
  simp only [szOk_some, hs, lenOf, Option.bind_some, hf]
  simp [u8s]
theorem frame_none {H : AH} {v : AV} (h : BS H v []) {k lo : Nat} (hlo : lo ≤ H.length) (hk : 20 < k) :
    ∃ X s, callA ap k (.func 10 [] []) [v] lo H = some (.tuple [s, .int .i64 0], H ++ X) ∧ BS (H ++ X) s (recB []) := by
  obtain ⟨k, rfl⟩ : ∃ k', k = k' + 2 := ⟨k - 2, by omega⟩
  obtain ⟨a, c, s, rfl⟩ := h.slice
  obtain ⟨n, hn⟩ : ∃ n : Nat, n = 0 := ⟨_, rfl⟩
  simp only [List.length_nil] at h ⊢
  rw [← hn] at h ⊢
  have h400 : ¬ (400 : Int) < n := by omega
  have hh : (hd2 n).length = 2 := rfl
  have hl4 : (low4 (crcL (hd2 n))).length = 4 := rfl
  have q1 := hd_hi (n := n) (by omega)
  have q2 := hd_lo (n := n) (by omega)
  have e1 : aappend lo (H ++ [.cells [.int .u8 (IntKind.u8.wrap (ishr .i64 n 8)), .int .u8 (IntKind.u8.wrap n)] .rw]) 1 1 (.slice (some (H.length, 0)) 2 (some 2) 1) (.slice a n c s)
      = some (.slice (some (H.length, 0)) 2 (some 2) 1, H ++ [.cells (u8s (hd2 n)) .rw]) := by
    rw [append_zero (h.app _)]; rfl
  have hb : BS (H ++ [.cells (u8s (hd2 n)) .rw]) (.slice (some (H.length, 0)) 2 (some 2) 1) (hd2 n) :=
    BS.new (H := H) (X := [.cells (u8s (hd2 n)) .rw]) (.inl rfl) (i := 0) rfl hh.symm rfl
  have e2 := crc_ok hb (by rw [hh]; omega) (k := k + 1) (lo := lo) (by rw [hh]; omega)
  have hle := @low_eq (hd2 n)
  obtain ⟨Y, s', e3, hs'⟩ : ∃ Y s', aappend lo (H ++ [.cells (u8s (hd2 n)) .rw, .cells [.int .u8 (IntKind.u8.wrap (iand .u32 (crcL (hd2 n)) 255)), .int .u8 (IntKind.u8.wrap (iand .u32 (ishr .u32 (crcL (hd2 n)) 8) 255)), .int .u8 (IntKind.u8.wrap (iand .u32 (ishr .u32 (crcL (hd2 n)) 16) 255)), .int .u8 (IntKind.u8.wrap (ishr .u32 (crcL (hd2 n)) 24))] .rw]) 1 1 (.slice (some (H.length, 0)) 2 (some 2) 1) (.slice (some (H.length + 1, 0)) 4 (some 4) 1)
      = some (s', H ++ Y) ∧ BS (H ++ Y) s' (recB []) := by
    have e0 : [AV.int .u8 (IntKind.u8.wrap (iand .u32 (crcL (hd2 n)) 255)), .int .u8 (IntKind.u8.wrap (iand .u32 (ishr .u32 (crcL (hd2 n)) 8) 255)), .int .u8 (IntKind.u8.wrap (iand .u32 (ishr .u32 (crcL (hd2 n)) 16) 255)), .int .u8 (IntKind.u8.wrap (ishr .u32 (crcL (hd2 n)) 24))] = u8s (low4 (crcL (hd2 n))) := by rw [← hle]; rfl
    rw [e0]
    have := append_new (H := H ++ [.cells (u8s (hd2 n)) .rw, .cells (u8s (low4 (crcL (hd2 n)))) .rw]) (lo := lo) (n := 2) (m := 6) (c := 2) (bs := hd2 n) (cs := low4 (crcL (hd2 n))) (x := .slice (some (H.length + 1, 0)) 4 (some 4) 1)
      (BS.new (H := H) (X := [.cells (u8s (hd2 n)) .rw, .cells (u8s (low4 (crcL (hd2 n)))) .rw]) (.inl rfl) (i := 0) rfl hh.symm rfl) (BS.new (H := H) (X := [.cells (u8s (hd2 n)) .rw, .cells (u8s (low4 (crcL (hd2 n)))) .rw]) (.inl rfl) (i := 1) rfl hl4.symm rfl) hh.symm (by rw [hl4]; omega) (by simp [low4]) (by rw [hl4]; unfold room; omega) (by rw [hl4])
    rw [Nat.add_zero] at this
    refine ⟨_, _, by rw [this, List.append_assoc], ?_⟩
    have hrec : hd2 n ++ low4 (crcL (hd2 n)) = recB [] := by unfold recB; rw [hn]; rfl
    rw [hrec]
    refine BS.new (.inl rfl) (i := 2) rfl ?_ (by simp)
    rfl
  refine ⟨Y, s', ?_, hs'⟩
  rw [← Hx_eq, hx_go fn10 rfl, b10]
  clear hs' hb hle hk hn h
  simp [f10, b10, h400, q1, q2, e1, e2, e3]
theorem frame_ok {H : AH} {v : AV} {bs : List Int} (h : BS H v bs) (hl : bs.length ≤ 400) {k lo : Nat} (hlo : lo ≤ H.length) (hk : bs.length + 20 < k) :
    ∃ X s, callA ap k (.func 10 [] []) [v] lo H = some (.tuple [s, .int .i64 0], H ++ X) ∧ BS (H ++ X) s (recB bs) := by
  by_cases h0 : bs = []
  · subst h0; exact frame_none h hlo hk
  · exact frame_some h hl h0 hlo hk
theorem put_long {H : AH} {v : AV} {bs : List Int} (h : BS H v bs) (hl : 400 < bs.length) {k lo : Nat} : callA ap (k + 1) (.func 9 [] []) [v] lo H = some (.tuple [.slice none 0 (some 0) 0, .int .i64 1], H) := by
  obtain ⟨a, c, s, rfl⟩ := h.slice
  have h400 : (400 : Int) < bs.length := by omega
  rw [← Hx_eq, hx_go fn9 rfl, b9]
  simp [f9, b9, h400]
theorem frame_long {H : AH} {v : AV} {bs : List Int} (h : BS H v bs) (hl : 400 < bs.length) {k lo : Nat} : callA ap (k + 1) (.func 10 [] []) [v] lo H = some (.tuple [.slice none 0 (some 0) 0, .int .i64 1], H) := by
  obtain ⟨a, c, s, rfl⟩ := h.slice
  have h400 : (400 : Int) < bs.length := by omega
  rw [← Hx_eq, hx_go fn10 rfl, b10]
  simp [f10, b10, h400]
end Go.Proofs.Ytinehdoenhodoaa.T.Fm
