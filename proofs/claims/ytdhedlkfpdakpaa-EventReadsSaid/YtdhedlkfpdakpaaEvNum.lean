import Derived.Test.YtdhedlkfpdakpaaWWords
import Derived.Test.YtdhedlkfpdakpaaWMore
import Derived.Laws.BitsLemmas
import Derived.Laws.Bits64b
import Derived.OpenShut
/-! Plain laws of numbers: bit operations, the zigzag, the bytes of a number. Nothing of the program. -/
namespace Go.Proofs.Ytdhedlkfpdakpaa.Ev
open Go.RowKit Go.Proofs.YtdhedlkfpdakpaaW.PrintWords

/-- 'Option.bind_some', but no rule by computation: the kernel is not to compare what follows. -/
theorem bsome {α β : Type} (a : α) (f : α → Option β) : (some a).bind f = f a := congrArg (fun x => x) (Option.bind_some a f)
theorem wu64 (n : Int) : IntKind.u64.wrap n = n % 18446744073709551616 := by simp [IntKind.wrap, IntKind.bits, IntKind.signed]
theorem wraps_u64 (n : Int) (h₀ : 0 ≤ n) (h₁ : n < 2 ^ 64) : IntKind.u64.wrap n = n := by rw [wu64]; omega
theorem or128 (x : Int) : Go.bits .or .u8 (x % 256) 128 = x % 128 + 128 := by
  have key : ∀ a : Fin 256, Go.bits .or .u8 (a.val : Int) 128 = (a.val : Int) % 128 + 128 := by decide +kernel
  have h := key ⟨(x % 256).toNat, by omega⟩
  have e : (((x % 256).toNat : Nat) : Int) = x % 256 := by omega
  simp only [e] at h
  rw [h]
  omega
theorem and127_u8 (x : Int) (h0 : 0 ≤ x) (h1 : x ≤ 255) : Go.bits .and .u8 x 127 = x % 128 := by
  have key : ∀ a : Fin 256, Go.bits .and .u8 (a.val : Int) 127 = (a.val : Int) % 128 := by decide +kernel
  have h := key ⟨x.toNat, by omega⟩
  have e : ((x.toNat : Nat) : Int) = x := by omega
  simp only [e] at h
  exact h
theorem and127_u64 (x : Int) (h0 : 0 ≤ x) (h1 : x < 18446744073709551616) : Go.bits .and .u64 x 127 = x % 128 := by
  have := bits_mask .u64 64 (by decide) wraps_u64 7 (by decide) x h0 (by omega)
  simpa using this
theorem and1_u64 (x : Int) (h0 : 0 ≤ x) (h1 : x < 18446744073709551616) : Go.bits .and .u64 x 1 = x % 2 := by
  have := bits_mask .u64 64 (by decide) wraps_u64 1 (by decide) x h0 (by omega)
  simpa using this
theorem or1_u64 (x : Int) (h0 : 0 ≤ x) (h1 : x < 18446744073709551616) (h2 : x % 2 = 0) : Go.bits .or .u64 x 1 = x + 1 := by
  have := bits_join .u64 64 (by decide) wraps_u64 1 x 1 h0 (by omega) (by omega) (by decide) (by decide) (by decide)
  simpa using this
theorem xor_all (a : Nat) (ha : a < 2 ^ 64) : a ^^^ 18446744073709551615 = 18446744073709551615 - a := by
  have h : (BitVec.ofNat 64 a ^^^ BitVec.allOnes 64) = ~~~ BitVec.ofNat 64 a := BitVec.xor_allOnes
  have h2 := congrArg BitVec.toNat h
  rw [BitVec.toNat_xor, BitVec.toNat_not, BitVec.toNat_allOnes, BitVec.toNat_ofNat, Nat.mod_eq_of_lt ha] at h2
  exact h2
theorem xor0_u64 (x : Int) (h0 : 0 ≤ x) (h1 : x < 18446744073709551616) : Go.bits .xor .u64 x 0 = x := by
  obtain ⟨a, rfl⟩ := Int.eq_ofNat_of_zero_le h0
  have h := Go.bits_xor_u64_nat a 0 (by omega) (by decide)
  simpa using h
theorem xorm_u64 (x : Int) (h0 : 0 ≤ x) (h1 : x < 18446744073709551616) : Go.bits .xor .u64 x 18446744073709551615 = 18446744073709551615 - x := by
  obtain ⟨a, rfl⟩ := Int.eq_ofNat_of_zero_le h0
  have ha : a < 2 ^ 64 := by omega
  have h := Go.bits_xor_u64_nat a 18446744073709551615 (by omega) (by decide)
  rw [show ((18446744073709551615 : Nat) : Int) = 18446744073709551615 from rfl] at h
  rw [h, xor_all a ha]
  omega
theorem xor_i64_nat (a b : Nat) (ha : a < 2 ^ 64) (hb : b < 2 ^ 64) (x y : Int) (hx : BitVec.ofInt 64 x = BitVec.ofNat 64 a) (hy : BitVec.ofInt 64 y = BitVec.ofNat 64 b) : Go.bits .xor .i64 x y = IntKind.i64.wrap ((a ^^^ b : Nat) : Int) := by
  show IntKind.i64.wrap ((BitVec.ofInt 64 x ^^^ BitVec.ofInt 64 y).toNat : Int) = _
  rw [hx, hy, BitVec.toNat_xor, BitVec.toNat_ofNat, BitVec.toNat_ofNat, Nat.mod_eq_of_lt ha, Nat.mod_eq_of_lt hb]
theorem xor0_i64 (x : Int) (h0 : 0 ≤ x) (h1 : x < 9223372036854775808) : Go.bits .xor .i64 x 0 = x := by
  obtain ⟨a, rfl⟩ := Int.eq_ofNat_of_zero_le h0
  rw [xor_i64_nat a 0 (by omega) (by decide) a 0 (BitVec.ofInt_natCast ..) (by decide), Nat.xor_zero, IntKind.wrap_i64]
  omega
theorem xorm_i64 (x : Int) (h0 : 0 ≤ x) (h1 : x < 9223372036854775808) : Go.bits .xor .i64 x (-1) = -x - 1 := by
  obtain ⟨a, rfl⟩ := Int.eq_ofNat_of_zero_le h0
  rw [xor_i64_nat a 18446744073709551615 (by omega) (by decide) a (-1) (BitVec.ofInt_natCast ..) (by decide), xor_all a (by omega), IntKind.wrap_i64]
  omega
/-- Disjoint bits. -/
theorem or_high (x y p : Int) (i : Nat) (hi : i ≤ 64) (hp : p = 2 ^ i) (hx0 : 0 ≤ x) (hx : x < p) (hy0 : 0 ≤ y) (hy : y < 18446744073709551616) (hm : y % p = 0) : Go.bits .or .u64 x y = x + y := by
  subst hp
  have hle : (2 : Int) ^ i ≤ 18446744073709551616 := by
    have h1 : 2 ^ i ≤ 2 ^ 64 := Nat.pow_le_pow_right (by decide) hi
    have h2 : ((2 ^ i : Nat) : Int) ≤ ((2 ^ 64 : Nat) : Int) := Int.ofNat_le.2 h1
    rw [Int.natCast_pow] at h2
    exact h2
  have h := bits_join .u64 64 (by decide) wraps_u64 i y x hy0 hm (by omega) hx0 hx (by omega)
  have hc : Go.bits .or .u64 x y = Go.bits .or .u64 y x := by
    unfold Go.bits
    simp only [BitVec.or_comm]
  rw [hc, h]
  omega

/-- The zigzag. -/
def zig (n : Int) : Int := if 0 ≤ n then 2 * n else -(2 * n) - 1
def unz (u : Int) : Int := if u % 2 = 0 then u / 2 else -(u / 2) - 1
theorem zig_nonneg (n : Int) : 0 ≤ zig n := by unfold zig; split <;> omega
theorem zig_lt (n : Int) (h0 : -9223372036854775808 ≤ n) (h1 : n ≤ 9223372036854775807) : zig n < 18446744073709551616 := by unfold zig; split <;> omega
theorem unz_zig (n : Int) : unz (zig n) = n := by unfold zig unz; split <;> split <;> omega
theorem zig_unz (u : Int) (h : 0 ≤ u) : zig (unz u) = u := by unfold zig unz; split <;> split <;> omega
theorem unz_range (u : Int) (h0 : 0 ≤ u) (h1 : u < 18446744073709551616) : -9223372036854775808 ≤ unz u ∧ unz u ≤ 9223372036854775807 := by unfold unz; split <;> omega
/-- As the program makes it. -/
theorem zig_go (n : Int) (h0 : -9223372036854775808 ≤ n) (h1 : n ≤ 9223372036854775807) :
    Go.bits .xor .u64 (IntKind.u64.wrap ((IntKind.u64.wrap n) * 2)) (IntKind.u64.wrap (n / 9223372036854775808)) = zig n := by
  simp only [wu64]
  by_cases h : 0 ≤ n
  · have e1 : n / 9223372036854775808 % 18446744073709551616 = 0 := by omega
    rw [e1, xor0_u64 _ (by omega) (by omega)]
    unfold zig; rw [if_pos h]; omega
  · have e1 : n / 9223372036854775808 % 18446744073709551616 = 18446744073709551615 := by omega
    rw [e1, xorm_u64 _ (by omega) (by omega)]
    unfold zig; rw [if_neg h]; omega
/-- As the reference makes it. -/
theorem zig_ref_neg (n : Int) (h0 : -9223372036854775808 ≤ n) (h1 : n < 0) :
    Go.bits .or .u64 (IntKind.u64.wrap ((IntKind.u64.wrap (wrap64 (-(wrap64 (n + 1))))) * 2)) 1 = zig n := by
  have e : wrap64 (-(wrap64 (n + 1))) = -(n + 1) := by unfold wrap64; omega
  rw [e]
  simp only [wu64]
  have e2 : -(n + 1) % 18446744073709551616 * 2 % 18446744073709551616 = 2 * (-(n + 1)) := by omega
  rw [e2, or1_u64 _ (by omega) (by omega) (by omega)]
  unfold zig; rw [if_neg (by omega)]; omega
theorem zig_ref_pos (n : Int) (h0 : 0 ≤ n) (h1 : n ≤ 9223372036854775807) : IntKind.u64.wrap ((IntKind.u64.wrap n) * 2) = zig n := by
  simp only [wu64]
  unfold zig; rw [if_pos h0]; omega
/-- As the program takes it back. -/
theorem unz_go (v : Int) (h0 : 0 ≤ v) (h1 : v < 18446744073709551616) : Go.bits .xor .i64 (wrap64 (v / 2)) (wrap64 (-(wrap64 (Go.bits .and .u64 v 1)))) = unz v := by
  rw [and1_u64 v h0 h1]
  have e1 : wrap64 (v / 2) = v / 2 := by unfold wrap64; omega
  rw [e1]
  unfold unz
  by_cases h : v % 2 = 0
  · have e2 : wrap64 (-(wrap64 (v % 2))) = 0 := by rw [h]; unfold wrap64; omega
    rw [if_pos h, e2, xor0_i64 _ (by omega) (by omega)]
  · have e3 : v % 2 = 1 := by omega
    have e2 : wrap64 (-(wrap64 (v % 2))) = -1 := by rw [e3]; unfold wrap64; omega
    rw [if_neg h, e2, xorm_i64 _ (by omega) (by omega)]

/-- A number's bytes, at most f + 1 of them. -/
def vb : Nat → Int → List Int
  | 0, u => [u]
  | f + 1, u => if u > 127 then (u % 128 + 128) :: vb f (u / 128) else [u]
theorem vb_pos (f : Nat) (u : Int) : 0 < (vb f u).length := by
  cases f <;> simp only [vb]
  · simp
  · split <;> simp
theorem vb_le (f : Nat) : ∀ u, (vb f u).length ≤ f + 1 := by
  induction f with
  | zero => intro u; simp [vb]
  | succ f ih =>
    intro u
    simp only [vb]
    split
    · have := ih (u / 128); simp; omega
    · simp
theorem vb_byte (f : Nat) : ∀ u, 0 ≤ u → u < 128 ^ (f + 1) → ∀ x ∈ vb f u, 0 ≤ x ∧ x ≤ 255 := by
  induction f with
  | zero =>
    intro u h0 h1 x hx
    simp [vb] at hx
    subst hx
    simp at h1
    omega
  | succ f ih =>
    intro u h0 h1 x hx
    simp only [vb] at hx
    split at hx
    · rcases List.mem_cons.1 hx with rfl | hx
      · omega
      · refine ih (u / 128) (by omega) ?_ x hx
        have : (128 : Int) ^ (f + 1 + 1) = 128 ^ (f + 1) * 128 := Int.pow_succ ..
        omega
    · simp at hx; subst hx; omega
/-- A number's bytes. -/
def enc (n : Int) : List Int := vb 9 (zig n)
theorem enc_len (n : Int) : 0 < (enc n).length ∧ (enc n).length ≤ 10 := ⟨vb_pos _ _, vb_le _ _⟩
theorem enc_byte (n : Int) (h0 : -9223372036854775808 ≤ n) (h1 : n ≤ 9223372036854775807) : ∀ x ∈ enc n, 0 ≤ x ∧ x ≤ 255 :=
  vb_byte 9 (zig n) (zig_nonneg n) (by have := zig_lt n h0 h1; omega)
theorem rd_eq {l : List Int} {i : Nat} (h : i < l.length) : rd l (i : Int) = l[i] := by simp [rd, List.getD_eq_getElem?_getD, List.getElem?_eq_getElem h]
theorem rd_drop {l : List Int} {i : Nat} (h : i < l.length) : l.drop i = rd l (i : Int) :: l.drop (i + 1) := by
  rw [List.drop_eq_getElem_cons h, rd_eq h]
theorem shl7 (c : Int) (i : Nat) (hi : i ≤ 9) (p : Int) (hp : p = 2 ^ (7 * i)) : shl .u64 c (wrap64 (7 * (i : Int))) = (c * p) % 18446744073709551616 := by
  have e : wrap64 (7 * (i : Int)) = ((7 * i : Nat) : Int) := by unfold wrap64; omega
  rw [e]
  unfold shl
  have e2 : min ((7 * i : Nat) : Int).toNat IntKind.u64.bits = 7 * i := by
    simp [IntKind.bits]; omega
  rw [e2, wu64, hp]
theorem w64 {x : Int} (h0 : -9223372036854775808 ≤ x) (h1 : x ≤ 9223372036854775807) : wrap64 x = x := by
  unfold wrap64
  rw [Int.emod_eq_of_lt (by omega) (by omega)]
  omega
/-- 128 to the f + 1. -/
def pw : Nat → Int
  | 0 => 128
  | f + 1 => pw f * 128
theorem pw_succ (f : Nat) : pw (f + 1) = pw f * 128 := rfl
theorem pw_nine : pw 9 = 1180591620717411303424 := rfl
/-- Seven bits more. -/
theorem or_step (i : Nat) (hi : i ≤ 9) (p : Int) (hp : p = 2 ^ (7 * i)) (x c : Int) (hx0 : 0 ≤ x) (hx : x < p) (hc0 : 0 ≤ c) (hc : c ≤ 255) (hlt : c % 128 * p < 18446744073709551616) :
    Go.bits .or .u64 x (shl .u64 (IntKind.u64.wrap (Go.bits .and .u8 c 127)) (wrap64 (7 * (i : Int)))) = x + c % 128 * p := by
  have hpp : 0 < p := by rw [hp]; exact Int.pow_pos (by decide)
  have hge : 0 ≤ c % 128 * p := Int.mul_nonneg (by omega) (by omega)
  rw [and127_u8 c hc0 hc, wu64, shl7 _ i hi p hp, Int.emod_eq_of_lt (a := c % 128) (by omega) (by omega), Int.emod_eq_of_lt hge hlt]
  exact or_high x (c % 128 * p) p (7 * i) (by omega) hp hx0 hx hge hlt (Int.mul_emod_left ..)
theorem pow7 (i : Nat) (p : Int) (hp : p = 2 ^ (7 * i)) : p * 128 = 2 ^ (7 * (i + 1)) := by
  rw [hp, show 7 * (i + 1) = 7 * i + 7 by omega, Int.pow_add]
  rfl
/-- 2 to the 7 i. -/
def pp : Nat → Int
  | 0 => 1
  | i + 1 => pp i * 128
theorem pp_eq (i : Nat) : pp i = 2 ^ (7 * i) := by
  induction i with
  | zero => rfl
  | succ i ih => exact pow7 i (pp i) ih
theorem pp_pos (i : Nat) : 0 < pp i := by rw [pp_eq]; exact Int.pow_pos (by decide)
theorem split7 (u p : Int) : u % 128 * p + u / 128 * (p * 128) = u * p := by
  have h3 : u % 128 + 128 * (u / 128) = u := Int.emod_add_mul_ediv ..
  have h4 : u % 128 * p + u / 128 * (p * 128) = (u % 128 + 128 * (u / 128)) * p := by
    rw [Int.add_mul]
    congr 1
    rw [Int.mul_comm 128 (u / 128), Int.mul_assoc, Int.mul_comm 128 p]
  rw [h4, h3]
end Go.Proofs.Ytdhedlkfpdakpaa.Ev
