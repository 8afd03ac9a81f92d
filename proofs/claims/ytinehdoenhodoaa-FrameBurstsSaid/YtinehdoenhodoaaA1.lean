import Derived.Test.YtinehdoenhodoaaAbT
import Derived.Test.YtinehdoenhodoaaAb17
/-! The sum of bytes, the program's and the document's. -/
set_option linter.unusedVariables false
set_option linter.unusedSimpArgs false
set_option maxHeartbeats 4000000
namespace Go.Proofs.Ytinehdoenhodoaa.T.Fm
open Go Go.Ab
def crcBit (c : Int) : Int := if iand .u32 c 1 = 1 then ixor .u32 (ishr .u32 c 1) 3988292384 else ishr .u32 c 1
def iter8 (f : Int → Int) : Nat → Int → Int
  | 0, x => x
  | n + 1, x => f (iter8 f n x)
def crcByte (c x : Int) : Int := iter8 crcBit 8 (ixor .u32 c (IntKind.u32.wrap x))
def crcTo (bs : List Int) : Nat → Int
  | 0 => 4294967295
  | n + 1 => crcByte (crcTo bs n) (bs.getD n 0)
def crcL (bs : List Int) : Int := ixor .u32 4294967295 (crcTo bs bs.length)

theorem sum_ok {H : AH} {v : AV} {bs : List Int} (h : BS H v bs) (hl : bs.length ≤ 100000000000000) {k lo : Nat} (hk : bs.length + 9 < k) : callA ap k (.func 11 [] []) [v] lo H = some (.int .u32 (crcL bs), H) := by
  obtain ⟨k, rfl⟩ : ∃ k', k = k' + 1 := ⟨k - 1, by omega⟩
  rw [← Hx_eq, hx_go fn11 rfl, b11]
  obtain ⟨a, c, s, rfl⟩ := h.slice
  have hget := BS.get h
  simp [f11, b11]
  refine hx_for (fun i => ⟨[U,U,U,.int .u32 (crcTo bs i),U,U,U,.slice a bs.length c s,.int .i64 bs.length,.int .i64 i,U,U,U,U,U,U,U,U,U,U,U,U,U,U,U,U,U,U,U,U,U], H, []⟩) bs.length (fun i hi => ?_) ?_ (by omega) (by simp [maskS, crcTo])
  · obtain ⟨b, o, l, rfl, rfl, h1, h2⟩ := hget i hi
    simp at h2
    simp [hi, h1, h2]
    refine hx_for (fun j => ⟨[U,U,U,.int .u32 (iter8 crcBit j (ixor .u32 (crcTo bs i) (IntKind.u32.wrap (bs.getD i 0)))),U,U,U,.slice (some (b, o)) bs.length c 1,.int .i64 bs.length,.int .i64 i,U,U,U,U,U,U,U,.int .i64 j,U,U,U,U,U,U,U,U,U,U,U,U,U], H, []⟩) 8 (fun j hj => ?_) ?_ ?_ ?_
    · have hj' : (j : Int) < 8 := by omega
      have hw : IntKind.i64.wrap ((j : Int) + 1) = j + 1 := wrap_i64 (by omega) (by omega)
      simp [hj', condK_b]
      by_cases hc : iand .u32 (iter8 crcBit j (ixor .u32 (crcTo bs i) (IntKind.u32.wrap (bs.getD i 0)))) 1 = 1
      · simp at hc
        simp [hc, maskS, iter8, crcBit, hw]
      · simp at hc
        simp [hc, maskS, iter8, crcBit, hw]
    · have hw : IntKind.i64.wrap ((i : Int) + 1) = i + 1 := wrap_i64 (by omega) (by omega)
      simp [maskS, crcTo, crcByte, hw]
    · omega
    · simp [maskS, iter8, hi]
  · simp [crcL]
    rfl

theorem crc_ok {H : AH} {v : AV} {bs : List Int} (h : BS H v bs) (hl : bs.length ≤ 100000000000000) {k lo : Nat} (hk : bs.length + 9 < k) : callA ap k (.func 12 [] []) [v] lo H = some (.int .u32 (crcL bs), H) := by
  obtain ⟨k, rfl⟩ : ∃ k', k = k' + 1 := ⟨k - 1, by omega⟩
  rw [← Hx_eq, hx_go fn12 rfl, b12]
  obtain ⟨a, c, s, rfl⟩ := h.slice
  have hget := BS.get h
  simp [f12, b12]
  refine hx_for (fun i => ⟨[.slice a bs.length c s,U,U,.int .u32 (crcTo bs i),.int .i64 i,U,U,U,U,U,U,U,U,U,U,U,U,U,U,U,U,U,U,U,U,U,U,U,U,U,U,U,U,U], H, []⟩) bs.length (fun i hi => ?_) ?_ (by omega) (by simp [maskS, crcTo])
  · obtain ⟨b, o, l, rfl, rfl, h1, h2⟩ := hget i hi
    simp at h2
    simp [hi, h1, h2]
    refine hx_for (fun j => ⟨[.slice (some (b, o)) bs.length c 1,U,U,.int .u32 (iter8 crcBit j (ixor .u32 (crcTo bs i) (IntKind.u32.wrap (bs.getD i 0)))),.int .i64 i,.int .i64 j,U,U,U,U,U,U,U,U,U,U,U,U,U,U,U,U,U,U,U,U,U,U,U,U,U,U,U,U], H, []⟩) 8 (fun j hj => ?_) ?_ ?_ ?_
    · have hj' : (j : Int) < 8 := by omega
      have hw : IntKind.i64.wrap ((j : Int) + 1) = j + 1 := wrap_i64 (by omega) (by omega)
      simp [hj', condK_b]
      by_cases hc : iand .u32 (iter8 crcBit j (ixor .u32 (crcTo bs i) (IntKind.u32.wrap (bs.getD i 0)))) 1 = 1
      · simp at hc
        simp [hc, maskS, iter8, crcBit, hw]
      · simp at hc
        simp [hc, maskS, iter8, crcBit, hw]
    · have hw : IntKind.i64.wrap ((i : Int) + 1) = i + 1 := wrap_i64 (by omega) (by omega)
      simp [maskS, crcTo, crcByte, hw]
    · omega
    · simp [maskS, iter8, hi]
  · simp [crcL]
    rfl
end Go.Proofs.Ytinehdoenhodoaa.T.Fm
