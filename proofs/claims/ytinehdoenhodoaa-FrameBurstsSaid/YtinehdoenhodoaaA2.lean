import Derived.Test.YtinehdoenhodoaaA1
import Derived.Test.YtinehdoenhodoaaAb18
/-! Records: the program's Put, the document's Frame. -/
set_option linter.unusedVariables false
set_option linter.unusedSimpArgs false
set_option maxHeartbeats 4000000
set_option maxRecDepth 100000
namespace Go.Proofs.Ytinehdoenhodoaa.T.Fm
open Go Go.Ab
def low4 (c : Int) : List Int := [IntKind.u8.wrap c, IntKind.u8.wrap (ishr .u32 c 8), IntKind.u8.wrap (ishr .u32 c 16), IntKind.u8.wrap (ishr .u32 c 24)]
theorem low_ok {H : AH} {n : Int} {k lo : Nat} : callA ap (k + 1) (.func 19 [] []) [.int .u32 n] lo H = some (.slice (some (H.length, 0)) 4 (some 4) 1, H ++ [.cells (u8s (low4 n)) .rw]) := by
  rw [← Hx_eq, hx_go fn19 rfl, b19]
  simp [f19, b19, low4, u8s]
def hd2 (n : Nat) : List Int := [IntKind.u8.wrap (ishr .i64 n 8), IntKind.u8.wrap n]
def recB (bs : List Int) : List Int := hd2 bs.length ++ bs ++ low4 (crcL (hd2 bs.length ++ bs))
theorem put_ok {H : AH} {v : AV} {bs : List Int} (h : BS H v bs) (hl : bs.length ≤ 400) {N : Nat} (hN6 : N = bs.length + 6) {k lo : Nat} (hlo : lo ≤ H.length) (hk : bs.length + 20 < k) :
    callA ap k (.func 9 [] []) [v] lo H = some (.tuple [.slice (some (H.length, 0)) N (some N) 1, .int .i64 0],
      H ++ [.cells (u8s (recB bs)) .rw, .cells (u8s (hd2 bs.length)) .rw, .cells (u8s (low4 (crcL (hd2 bs.length ++ bs)))) .rw]) := by
  obtain ⟨k, rfl⟩ : ∃ k', k = k' + 2 := ⟨k - 2, by omega⟩
  rw [← Hx_eq, hx_go fn9 rfl, b9]
  obtain ⟨a, c, s, rfl⟩ := h.slice
  obtain ⟨n, hn⟩ : ∃ n, n = bs.length := ⟨_, rfl⟩
  rw [← hn] at h hl hN6 hk ⊢
  have h400 : ¬ (400 : Int) < n := by omega
  obtain ⟨m, hm⟩ : ∃ m : Int, m = (n : Int) + 6 := ⟨_, rfl⟩
  have hw : IntKind.i64.wrap ((n : Int) + 6) = m := by rw [hm]; exact wrap_i64 (by omega) (by omega)
  have hc : canMake 0 m 1 1 := by unfold canMake room; omega
  have hNm : m.toNat = N := by omega
  have hh : (hd2 n).length = 2 := rfl
  obtain ⟨R1, hR1, hr1⟩ : ∃ R : List Int, R.length = n + 4 ∧ (List.replicate N 0).drop 2 = R := ⟨_, by simp; omega, rfl⟩
  obtain ⟨R2, hR2, hr2⟩ : ∃ R : List Int, R.length = 4 ∧ R1.drop n = R := ⟨_, by simp; omega, rfl⟩
  have e1 : aappend lo (H ++ [.cells (List.replicate N (.int .u8 0)) .rw, .cells [.int .u8 (IntKind.u8.wrap (ishr .i64 n 8)), .int .u8 (IntKind.u8.wrap n)] .rw]) 1 1 (.slice (some (H.length, 0)) 0 (some N) 1) (.slice (some (H.length + 1, 0)) 2 (some 2) 1)
      = some (.slice (some (H.length, 0)) 2 (some N) 1, H ++ [.cells (u8s (hd2 n ++ R1)) .rw, .cells (u8s (hd2 n)) .rw]) := by
    have := append_in (H := H) (X := [.cells (u8s (hd2 n)) .rw]) (lo := lo) (n := 0) (cap := N) (bs := []) (rest := List.replicate N 0) (cs := hd2 n) (x := .slice (some (H.length + 1, 0)) 2 (some 2) 1) hlo (BS.new (H := H) (X := [.cells (u8s ([] ++ List.replicate N 0)) .rw, .cells (u8s (hd2 n)) .rw]) (.inl rfl) (i := 1) rfl hh.symm rfl) rfl (by rw [hh]; omega) (by rw [hh]; simp; omega)
    rw [hh, hr1] at this
    rw [show List.replicate N (AV.int .u8 0) = u8s ([] ++ List.replicate N 0) by simp [u8s]]
    exact this
  have e2 : aappend lo (H ++ [.cells (u8s (hd2 n ++ R1)) .rw, .cells (u8s (hd2 n)) .rw]) 1 1 (.slice (some (H.length, 0)) 2 (some N) 1) (.slice a n c s)
      = some (.slice (some (H.length, 0)) (2 + n) (some N) 1, H ++ [.cells (u8s (hd2 n ++ bs ++ R2)) .rw, .cells (u8s (hd2 n)) .rw]) := by
    have := append_in (H := H) (X := [.cells (u8s (hd2 n)) .rw]) (lo := lo) (n := 2) (cap := N) (bs := hd2 n) (rest := R1) (cs := bs) (x := .slice a n c s) hlo (h.app _) rfl (by omega) (by omega)
    rw [← hn, hr2] at this
    exact this
  have hb : BS (H ++ [.cells (u8s (hd2 n ++ bs ++ R2)) .rw, .cells (u8s (hd2 n)) .rw]) (.slice (some (H.length, 0)) (2 + n) (some N) 1) (hd2 n ++ bs) := by
    refine .at_ _ _ _ _ (u8s (hd2 n ++ bs ++ R2)) _ rowOf_new0 (by simp [hh]; omega) ?_ (by simp [hh]; omega)
    rw [List.drop_zero, u8s_take, List.take_left' (by simp [hh]; omega)]
  have e3 := sum_ok hb (by simp [hh]; omega) (k := k + 1) (lo := lo) (by simp [hh]; omega)
  have e4 : callA ap (k + 1) (.func 19 [] []) [.int .u32 (crcL (hd2 n ++ bs))] lo (H ++ [.cells (u8s (hd2 n ++ bs ++ R2)) .rw, .cells (u8s (hd2 n)) .rw]) = some (.slice (some (H.length + 2, 0)) 4 (some 4) 1, H ++ [.cells (u8s (hd2 n ++ bs ++ R2)) .rw, .cells (u8s (hd2 n)) .rw, .cells (u8s (low4 (crcL (hd2 n ++ bs)))) .rw]) := by
    rw [low_ok]; simp
  have hl4 : (low4 (crcL (hd2 n ++ bs))).length = 4 := rfl
  have e5 : aappend lo (H ++ [.cells (u8s (hd2 n ++ bs ++ R2)) .rw, .cells (u8s (hd2 n)) .rw, .cells (u8s (low4 (crcL (hd2 n ++ bs)))) .rw]) 1 1 (.slice (some (H.length, 0)) (2 + n) (some N) 1) (.slice (some (H.length + 2, 0)) 4 (some 4) 1)
      = some (.slice (some (H.length, 0)) N (some N) 1, H ++ [.cells (u8s (recB bs)) .rw, .cells (u8s (hd2 n)) .rw, .cells (u8s (low4 (crcL (hd2 n ++ bs)))) .rw]) := by
    have := append_in (H := H) (X := [.cells (u8s (hd2 n)) .rw, .cells (u8s (low4 (crcL (hd2 n ++ bs)))) .rw]) (lo := lo) (n := 2 + n) (cap := N) (bs := hd2 n ++ bs) (rest := R2) (cs := low4 (crcL (hd2 n ++ bs))) (x := .slice (some (H.length + 2, 0)) 4 (some 4) 1) hlo (BS.new (H := H) (X := [.cells (u8s (hd2 n ++ bs ++ R2)) .rw, .cells (u8s (hd2 n)) .rw, .cells (u8s (low4 (crcL (hd2 n ++ bs)))) .rw]) (.inl rfl) (i := 2) rfl hl4.symm rfl) (by simp [hh]; omega) (by rw [hl4]; omega) (by rw [hl4]; omega)
    rw [hl4, show 2 + n + 4 = N by omega, show R2.drop 4 = [] from List.drop_eq_nil_of_le (by omega), List.append_nil] at this
    unfold recB
    rw [← hn]
    exact this
  clear hm hr1 hr2 hR1 hR2 hb hN6 h hl hk
  simp only [List.append_assoc] at e2 e3 e4 e5
  generalize recB bs = rb at *
  simp [f9, b9, h400, hw, hc, hNm, e1, e2, e3, e4, e5]
end Go.Proofs.Ytinehdoenhodoaa.T.Fm
