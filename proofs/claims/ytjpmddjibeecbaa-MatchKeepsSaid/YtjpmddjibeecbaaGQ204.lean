import Derived.Test.YtjpmddjibeecbaaGQ203
import Derived.Laws.BitsLemmas
import Derived.Laws.Bits64b
import Derived.WalkKit
section
/-! Plain laws of numbers: the zigzag, the bytes of a number, and how they are read. Nothing of the program. -/
set_option linter.unusedVariables false
set_option linter.unusedSimpArgs false
namespace Go.Ab
theorem iand_bits {k : IntKind} {x y : Int} : iand k x y = Go.bits .and k x y := rfl
theorem ior_bits {k : IntKind} {x y : Int} : ior k x y = Go.bits .or k x y := rfl
theorem ixor_bits {k : IntKind} {x y : Int} : ixor k x y = Go.bits .xor k x y := rfl
theorem wu64 (n : Int) : IntKind.u64.wrap n = n % 18446744073709551616 := by simp [IntKind.wrap, IntKind.bits, IntKind.signed]
theorem wraps_u64 (n : Int) (h₀ : 0 ≤ n) (h₁ : n < 2 ^ 64) : IntKind.u64.wrap n = n := by rw [wu64]; omega
theorem or128 (x : Int) : ior .u8 (IntKind.u8.wrap x) 128 = x % 128 + 128 := by
  have key : ∀ a : Fin 256, ior .u8 (a.val : Int) 128 = (a.val : Int) % 128 + 128 := by decide +kernel
  have h := key ⟨(x % 256).toNat, by omega⟩
  have e : (((x % 256).toNat : Nat) : Int) = x % 256 := by omega
  simp only [e] at h
  rw [wrap_u8, h]
  omega
theorem and127_u8 (x : Int) (h0 : 0 ≤ x) (h1 : x < 256) : iand .u8 x 127 = x % 128 := by
  have key : ∀ a : Fin 256, iand .u8 (a.val : Int) 127 = (a.val : Int) % 128 := by decide +kernel
  have h := key ⟨x.toNat, by omega⟩
  have e : ((x.toNat : Nat) : Int) = x := by omega
  simp only [e] at h
  exact h
theorem and127_u64 (x : Int) (h0 : 0 ≤ x) (h1 : x < 18446744073709551616) : iand .u64 x 127 = x % 128 := by
  have := bits_mask .u64 64 (by decide) wraps_u64 7 (by decide) x h0 (by omega)
  simpa [iand_bits] using this
theorem and1_u64 (x : Int) (h0 : 0 ≤ x) (h1 : x < 18446744073709551616) : iand .u64 x 1 = x % 2 := by
  have := bits_mask .u64 64 (by decide) wraps_u64 1 (by decide) x h0 (by omega)
  simpa [iand_bits] using this
theorem or1_u64 (x : Int) (h0 : 0 ≤ x) (h1 : x < 18446744073709551616) (h2 : x % 2 = 0) : ior .u64 x 1 = x + 1 := by
  have := bits_join .u64 64 (by decide) wraps_u64 1 x 1 h0 (by omega) (by omega) (by decide) (by decide) (by decide)
  simpa [ior_bits] using this
theorem xor_all (a : Nat) (ha : a < 2 ^ 64) : a ^^^ 18446744073709551615 = 18446744073709551615 - a := by
  have h : (BitVec.ofNat 64 a ^^^ BitVec.allOnes 64) = ~~~ BitVec.ofNat 64 a := BitVec.xor_allOnes
  have h2 := congrArg BitVec.toNat h
  rw [BitVec.toNat_xor, BitVec.toNat_not, BitVec.toNat_allOnes, BitVec.toNat_ofNat, Nat.mod_eq_of_lt ha] at h2
  exact h2
theorem xor0_u64 (x : Int) (h0 : 0 ≤ x) (h1 : x < 18446744073709551616) : ixor .u64 x 0 = x := by
  obtain ⟨a, rfl⟩ := Int.eq_ofNat_of_zero_le h0
  have h := Go.bits_xor_u64_nat a 0 (by omega) (by decide)
  simpa [ixor_bits] using h
theorem xorm_u64 (x : Int) (h0 : 0 ≤ x) (h1 : x < 18446744073709551616) : ixor .u64 x 18446744073709551615 = 18446744073709551615 - x := by
  obtain ⟨a, rfl⟩ := Int.eq_ofNat_of_zero_le h0
  have ha : a < 2 ^ 64 := by omega
  have h := Go.bits_xor_u64_nat a 18446744073709551615 (by omega) (by decide)
  rw [show ((18446744073709551615 : Nat) : Int) = 18446744073709551615 from rfl] at h
  rw [ixor_bits, h, xor_all a ha]
  omega
theorem xor_i64_nat (a b : Nat) (ha : a < 2 ^ 64) (hb : b < 2 ^ 64) (x y : Int) (hx : BitVec.ofInt 64 x = BitVec.ofNat 64 a) (hy : BitVec.ofInt 64 y = BitVec.ofNat 64 b) : ixor .i64 x y = IntKind.i64.wrap ((a ^^^ b : Nat) : Int) := by
  show IntKind.i64.wrap ((BitVec.ofInt 64 x ^^^ BitVec.ofInt 64 y).toNat : Int) = _
  rw [hx, hy, BitVec.toNat_xor, BitVec.toNat_ofNat, BitVec.toNat_ofNat, Nat.mod_eq_of_lt ha, Nat.mod_eq_of_lt hb]
theorem xor0_i64 (x : Int) (h0 : 0 ≤ x) (h1 : x < 9223372036854775808) : ixor .i64 x 0 = x := by
  obtain ⟨a, rfl⟩ := Int.eq_ofNat_of_zero_le h0
  rw [xor_i64_nat a 0 (by omega) (by decide) a 0 (BitVec.ofInt_natCast ..) (by decide), Nat.xor_zero, wrap_i64 (by omega) (by omega)]
theorem xorm_i64 (x : Int) (h0 : 0 ≤ x) (h1 : x < 9223372036854775808) : ixor .i64 x (-1) = -x - 1 := by
  obtain ⟨a, rfl⟩ := Int.eq_ofNat_of_zero_le h0
  rw [xor_i64_nat a 18446744073709551615 (by omega) (by decide) a (-1) (BitVec.ofInt_natCast ..) (by decide), xor_all a (by omega), IntKind.wrap_i64]
  omega
/-- Disjoint bits. -/
theorem or_high (x y p : Int) (i : Nat) (hi : i ≤ 64) (hp : p = 2 ^ i) (hx0 : 0 ≤ x) (hx : x < p) (hy0 : 0 ≤ y) (hy : y < 18446744073709551616) (hm : y % p = 0) : ior .u64 x y = x + y := by
  subst hp
  have hle : (2 : Int) ^ i ≤ 18446744073709551616 := by
    have h1 : 2 ^ i ≤ 2 ^ 64 := Nat.pow_le_pow_right (by decide) hi
    have h2 : ((2 ^ i : Nat) : Int) ≤ ((2 ^ 64 : Nat) : Int) := Int.ofNat_le.2 h1
    rw [Int.natCast_pow] at h2
    exact h2
  have h := bits_join .u64 64 (by decide) wraps_u64 i y x hy0 hm (by omega) hx0 hx (by omega)
  have hc : ior .u64 x y = Go.bits .or .u64 y x := by
    unfold ior Go.bits
    simp only [BitVec.or_comm]
  rw [hc, h]
  omega

/-- The zigzag. -/
def zig (n : Int) : Int := if 0 ≤ n then 2 * n else -(2 * n) - 1
def unz (u : Int) : Int := if u % 2 = 0 then u / 2 else -(u / 2) - 1
theorem zig_nonneg (n : Int) : 0 ≤ zig n := by unfold zig; split <;> omega
theorem zig_lt (n : Int) (h0 : -9223372036854775808 ≤ n) (h1 : n ≤ 9223372036854775807) : zig n < 18446744073709551616 := by unfold zig; split <;> omega
theorem unz_zig (n : Int) : unz (zig n) = n := by unfold zig unz; split <;> split <;> omega
theorem zig_unz (u : Int) (h : 0 ≤ u) : zig (unz u) = u := by unfold zig unz; split <;> split <;> omega
theorem unz_range (u : Int) (h0 : 0 ≤ u) (h1 : u < 18446744073709551616) : -9223372036854775808 ≤ unz u ∧ unz u ≤ 9223372036854775807 := by unfold unz; split <;> omega
theorem shl1 (x : Int) : ishl .u64 x 1 = (x * 2) % 18446744073709551616 := by
  unfold ishl
  rw [wu64]
  rfl
theorem shr1 (x : Int) : ishr .u64 x 1 = x / 2 := by
  show x.fdiv 2 = x / 2
  rw [Int.fdiv_eq_ediv_of_nonneg _ (by decide)]
theorem shr7 (x : Int) : ishr .u64 x 7 = x / 128 := by
  show x.fdiv 128 = x / 128
  rw [Int.fdiv_eq_ediv_of_nonneg _ (by decide)]
theorem shr63 (x : Int) : ishr .i64 x 63 = x / 9223372036854775808 := by
  show x.fdiv 9223372036854775808 = x / 9223372036854775808
  rw [Int.fdiv_eq_ediv_of_nonneg _ (by decide)]
/-- As the program makes it. -/
theorem zig_go (n : Int) (h0 : -9223372036854775808 ≤ n) (h1 : n ≤ 9223372036854775807) :
    ixor .u64 (ishl .u64 (IntKind.u64.wrap n) 1) (IntKind.u64.wrap (ishr .i64 n 63)) = zig n := by
  rw [shl1, shr63]
  simp only [wu64]
  by_cases h : 0 ≤ n
  · have e1 : n / 9223372036854775808 % 18446744073709551616 = 0 := by omega
    rw [e1, xor0_u64 _ (by omega) (by omega)]
    unfold zig; rw [if_pos h]; omega
  · have e1 : n / 9223372036854775808 % 18446744073709551616 = 18446744073709551615 := by omega
    rw [e1, xorm_u64 _ (by omega) (by omega)]
    unfold zig; rw [if_neg h]; omega
/-- As the reference makes it. -/
theorem zig_ref_neg (n : Int) (h0 : -9223372036854775808 ≤ n) (h1 : n < 0) :
    ior .u64 (ishl .u64 (IntKind.u64.wrap (IntKind.i64.wrap (-(IntKind.i64.wrap (n + 1))))) 1) 1 = zig n := by
  rw [wrap_i64 (x := n + 1) (by omega) (by omega), wrap_i64 (by omega) (by omega), shl1]
  simp only [wu64]
  have e2 : -(n + 1) % 18446744073709551616 * 2 % 18446744073709551616 = 2 * (-(n + 1)) := by omega
  rw [e2, or1_u64 _ (by omega) (by omega) (by omega)]
  unfold zig; rw [if_neg (by omega)]; omega
theorem zig_ref_pos (n : Int) (h0 : 0 ≤ n) (h1 : n ≤ 9223372036854775807) : ishl .u64 (IntKind.u64.wrap n) 1 = zig n := by
  rw [shl1]
  simp only [wu64]
  unfold zig; rw [if_pos h0]; omega
/-- As the program takes it back. -/
theorem unz_go (v : Int) (h0 : 0 ≤ v) (h1 : v < 18446744073709551616) : ixor .i64 (IntKind.i64.wrap (ishr .u64 v 1)) (IntKind.i64.wrap (-(IntKind.i64.wrap (iand .u64 v 1)))) = unz v := by
  rw [and1_u64 v h0 h1, shr1]
  have e1 : IntKind.i64.wrap (v / 2) = v / 2 := wrap_i64 (by omega) (by omega)
  rw [e1]
  unfold unz
  by_cases h : v % 2 = 0
  · have e2 : IntKind.i64.wrap (-(IntKind.i64.wrap (v % 2))) = 0 := by rw [h]; decide
    rw [if_pos h, e2, xor0_i64 _ (by omega) (by omega)]
  · have e3 : v % 2 = 1 := by omega
    have e2 : IntKind.i64.wrap (-(IntKind.i64.wrap (v % 2))) = -1 := by rw [e3]; decide
    rw [if_neg h, e2, xorm_i64 _ (by omega) (by omega)]
theorem unz_ref_odd (v : Int) (h0 : 0 ≤ v) (h1 : v < 18446744073709551616) (h : iand .u64 v 1 = 1) : IntKind.i64.wrap (IntKind.i64.wrap (-(IntKind.i64.wrap (ishr .u64 v 1))) - 1) = unz v := by
  rw [and1_u64 v h0 h1] at h
  rw [shr1, wrap_i64 (x := v / 2) (by omega) (by omega), wrap_i64 (x := -(v / 2)) (by omega) (by omega), wrap_i64 (by omega) (by omega)]
  unfold unz; rw [if_neg (by omega)]
theorem unz_ref_even (v : Int) (h0 : 0 ≤ v) (h1 : v < 18446744073709551616) (h : ¬ iand .u64 v 1 = 1) : IntKind.i64.wrap (ishr .u64 v 1) = unz v := by
  rw [and1_u64 v h0 h1] at h
  rw [shr1, wrap_i64 (x := v / 2) (by omega) (by omega)]
  unfold unz; rw [if_pos (by omega)]

/-- A number's bytes, at most f + 1 of them. -/
def vb : Nat → Int → List Int
  | 0, u => [u]
  | f + 1, u => if u > 127 then (u % 128 + 128) :: vb f (u / 128) else [u]
theorem vb_pos (f : Nat) (u : Int) : 0 < (vb f u).length := by
  cases f <;> simp only [vb]
  · simp
  · split <;> simp
theorem vb_le (f : Nat) : ∀ u, (vb f u).length ≤ f + 1 := by
  induction f with
  | zero => intro u; simp [vb]
  | succ f ih =>
    intro u
    simp only [vb]
    split
    · have := ih (u / 128); simp; omega
    · simp
/-- 128 to the f + 1. -/
def pw : Nat → Int
  | 0 => 128
  | f + 1 => pw f * 128
theorem pw_succ (f : Nat) : pw (f + 1) = pw f * 128 := rfl
theorem pw_nine : pw 9 = 1180591620717411303424 := rfl
theorem vb_byte (f : Nat) : ∀ u, 0 ≤ u → u < pw f → Byt (vb f u) := by
  induction f with
  | zero =>
    intro u h0 h1 x hx
    simp [vb] at hx
    subst hx
    simp only [pw] at h1
    omega
  | succ f ih =>
    intro u h0 h1 x hx
    rw [pw_succ] at h1
    simp only [vb] at hx
    split at hx
    · rcases List.mem_cons.1 hx with rfl | hx
      · omega
      · exact ih (u / 128) (by omega) (by omega) x hx
    · simp at hx; subst hx; omega
/-- What an int64 can hold. -/
def I64 (n : Int) : Prop := -9223372036854775808 ≤ n ∧ n ≤ 9223372036854775807
/-- A number's bytes. -/
def enc (n : Int) : List Int := vb 9 (zig n)
theorem enc_len (n : Int) : 0 < (enc n).length ∧ (enc n).length ≤ 10 := ⟨vb_pos _ _, vb_le _ _⟩
theorem enc_byt {n : Int} (h : I64 n) : Byt (enc n) := vb_byte 9 (zig n) (zig_nonneg n) (by have := zig_lt n h.1 h.2; rw [pw_nine]; omega)
/-- 2 to the 7 i. -/
def pp : Nat → Int
  | 0 => 1
  | i + 1 => pp i * 128
theorem pp_eq (i : Nat) : pp i = 2 ^ (7 * i) := by
  induction i with
  | zero => rfl
  | succ i ih =>
    show pp i * 128 = _
    rw [ih, show 7 * (i + 1) = 7 * i + 7 by omega, Int.pow_add]
    rfl
theorem pp_pos (i : Nat) : 0 < pp i := by rw [pp_eq]; exact Int.pow_pos (by decide)
theorem split7 (u p : Int) : u % 128 * p + u / 128 * (p * 128) = u * p := by
  have h3 : u % 128 + 128 * (u / 128) = u := Int.emod_add_mul_ediv ..
  have h4 : u % 128 * p + u / 128 * (p * 128) = (u % 128 + 128 * (u / 128)) * p := by
    rw [Int.add_mul]
    congr 1
    rw [Int.mul_comm 128 (u / 128), Int.mul_assoc, Int.mul_comm 128 p]
  rw [h4, h3]
/-- Seven bits more. -/
def more (i : Nat) (x c : Int) : Int := x + (c % 128 * pp i) % 18446744073709551616
theorem pp_dvd {i : Nat} (hi : i ≤ 9) : ∃ q : Int, 18446744073709551616 = pp i * q := by
  refine ⟨2 ^ (64 - 7 * i), ?_⟩
  rw [pp_eq, ← Int.pow_add, show 7 * i + (64 - 7 * i) = 64 by omega]
  rfl
theorem pp_le {i : Nat} (hi : i ≤ 9) : pp i ≤ 9223372036854775808 := by
  rw [pp_eq]
  have h1 : 2 ^ (7 * i) ≤ 2 ^ 63 := Nat.pow_le_pow_right (by decide) (by omega)
  have h2 : ((2 ^ (7 * i) : Nat) : Int) ≤ ((2 ^ 63 : Nat) : Int) := Int.ofNat_le.2 h1
  rw [Int.natCast_pow] at h2
  exact h2
theorem more_hi {i : Nat} (hi : i ≤ 9) {x c : Int} (hx0 : 0 ≤ x) (hx : x < pp i) : 0 ≤ more i x c ∧ more i x c < 18446744073709551616 := by
  have hp := pp_pos i
  have hm : ((c % 128 * pp i) % 18446744073709551616) % pp i = 0 := by
    rw [Int.emod_emod_of_dvd _ (pp_dvd hi), Int.mul_emod_left]
  have h0 : 0 ≤ (c % 128 * pp i) % 18446744073709551616 := Int.emod_nonneg _ (by decide)
  have h1 : (c % 128 * pp i) % 18446744073709551616 < 18446744073709551616 := Int.emod_lt_of_pos _ (by decide)
  unfold more
  refine ⟨by omega, ?_⟩
  generalize (c % 128 * pp i) % 18446744073709551616 = y at hm h0 h1
  obtain ⟨q, e⟩ := pp_dvd hi
  have d1 : pp i ∣ 18446744073709551616 - y := Int.dvd_sub ⟨q, e⟩ (Int.dvd_of_emod_eq_zero hm)
  have := Int.le_of_dvd (by omega) d1
  omega
theorem more_small {i : Nat} (hi : i ≤ 8) (x : Int) {c : Int} : more i x c = x + c % 128 * pp i := by
  have hp := pp_pos i
  have h1 : pp i ≤ 72057594037927936 := by
    rw [pp_eq]
    have h1 : 2 ^ (7 * i) ≤ 2 ^ 56 := Nat.pow_le_pow_right (by decide) (by omega)
    have h2 : ((2 ^ (7 * i) : Nat) : Int) ≤ ((2 ^ 56 : Nat) : Int) := Int.ofNat_le.2 h1
    rw [Int.natCast_pow] at h2
    exact h2
  have h5 : c % 128 * pp i ≤ 127 * pp i := Int.mul_le_mul_of_nonneg_right (by omega) (by omega)
  have hge : 0 ≤ c % 128 * pp i := Int.mul_nonneg (by omega) (by omega)
  unfold more
  rw [Int.emod_eq_of_lt hge (by omega)]
theorem more_lt {i : Nat} (hi : i ≤ 8) {x c : Int} (hx0 : 0 ≤ x) (hx : x < pp i) : 0 ≤ more i x c ∧ more i x c < pp (i + 1) := by
  have hp := pp_pos i
  have h5 : c % 128 * pp i ≤ 127 * pp i := Int.mul_le_mul_of_nonneg_right (by omega) (by omega)
  have hge : 0 ≤ c % 128 * pp i := Int.mul_nonneg (by omega) (by omega)
  have hp1 : pp (i + 1) = pp i * 128 := rfl
  rw [more_small hi, hp1]
  omega
/-- As both make it. -/
theorem or_step {i : Nat} (hi : i ≤ 9) {x c : Int} (hx0 : 0 ≤ x) (hx : x < pp i) (hc0 : 0 ≤ c) (hc : c < 256) {z : Int} (hz : z = 7 * (i : Int)) :
    ior .u64 x (ishl .u64 (IntKind.u64.wrap (iand .u8 c 127)) z) = more i x c := by
  subst hz
  have hs : ishl .u64 (IntKind.u64.wrap (iand .u8 c 127)) (7 * (i : Int)) = (c % 128 * pp i) % 18446744073709551616 := by
    rw [and127_u8 c hc0 hc, wu64, Int.emod_eq_of_lt (a := c % 128) (by omega) (by omega)]
    unfold ishl
    have e2 : min (7 * (i : Int)).toNat IntKind.u64.bits = 7 * i := by
      simp [IntKind.bits]; omega
    rw [e2, wu64, pp_eq]
  rw [hs]
  have hm : ((c % 128 * pp i) % 18446744073709551616) % pp i = 0 := by
    rw [Int.emod_emod_of_dvd _ (pp_dvd hi), Int.mul_emod_left]
  exact or_high x _ (pp i) (7 * i) (by omega) (pp_eq i) hx0 hx (Int.emod_nonneg _ (by decide)) (Int.emod_lt_of_pos _ (by decide)) hm
/-- A number is read, from byte i on; x is what there is yet. st: each number in just one way. -/
def rdn (st : Bool) : List Int → Nat → Int → Option (Int × Nat)
  | [], _, _ => none
  | c :: l, i, x => if 10 ≤ i then none else if st = true ∧ (i = 9 ∧ 1 < c ∨ c = 0 ∧ 0 < i) then none else if c < 128 then some (unz (more i x c), i + 1) else rdn st l (i + 1) (more i x c)
theorem rdn_ten (st : Bool) (l : List Int) {i : Nat} (hi : 10 ≤ i) (x : Int) : rdn st l i x = none := by
  cases l with
  | nil => rfl
  | cons c l => simp only [rdn]; rw [if_pos hi]
theorem rdn_strict : ∀ (l : List Int) (i : Nat) (x : Int) (r : Int × Nat), rdn true l i x = some r → rdn false l i x = some r
  | [], _, _, _, h => by cases h
  | c :: l, i, x, r, h => by
    simp only [rdn] at h ⊢
    split at h
    · cases h
    rename_i h1
    rw [if_neg h1]
    split at h
    · cases h
    rw [if_neg (by simp)]
    split at h
    · rename_i h3; rw [if_pos h3]; exact h
    · rename_i h3; rw [if_neg h3]; exact rdn_strict l _ _ _ h
/-- How far it goes. -/
theorem rdn_far (st : Bool) : ∀ (l : List Int) (i : Nat) (x : Int) (v : Int) (k : Nat), rdn st l i x = some (v, k) → 0 ≤ x → x < pp i → i < k ∧ k ≤ i + l.length ∧ k ≤ 10 ∧ I64 v
  | [], _, _, _, _, h, _, _ => by cases h
  | c :: l, i, x, v, k, h, h0, h1 => by
    simp only [rdn] at h
    split at h
    · cases h
    rename_i h2
    split at h
    · cases h
    split at h
    · have hm := more_hi (i := i) (by omega) (c := c) h0 h1
      have hu := unz_range _ hm.1 hm.2
      injection h with h
      injection h with e1 e2
      subst e1 e2
      simp only [List.length_cons]
      exact ⟨by omega, by omega, by omega, hu⟩
    · by_cases h9 : i ≤ 8
      · have hm := more_lt h9 (c := c) h0 h1
        have := rdn_far st l (i + 1) _ v k h hm.1 hm.2
        simp only [List.length_cons]
        exact ⟨by omega, by omega, this.2.2.1, this.2.2.2⟩
      · rw [rdn_ten st l (by omega)] at h
        cases h
theorem rdn_enc (st : Bool) (f : Nat) : ∀ (i : Nat) (x u : Int) (rest : List Int), f + i = 9 → 0 ≤ u → u < pw f → (0 < i → 0 < u) → x + u * pp i < 18446744073709551616 → 0 ≤ x → x < pp i →
    rdn st (vb f u ++ rest) i x = some (unz (x + u * pp i), i + (vb f u).length) := by
  induction f with
  | zero =>
    intro i x u rest hf h0 h1 hz h2 hx0 hx1
    obtain rfl : i = 9 := by clear h0 h1 h2 hx0 hx1 hz; omega
    have h99 : pp 9 = 9223372036854775808 := by decide
    simp only [pw] at h1
    rw [h99] at h2
    have hu : u ≤ 1 := by omega
    simp only [vb, List.cons_append, rdn]
    rw [if_neg (by omega), if_neg (by have := hz (by omega); omega), if_pos (by omega)]
    unfold more
    rw [h99, Int.emod_eq_of_lt (a := u) (by omega) (by omega), Int.emod_eq_of_lt (b := 18446744073709551616) (by omega) (by omega)]
    simp
  | succ f ih =>
    intro i x u rest hf h0 h1 hz h2 hx0 hx1
    have hi8 : i ≤ 8 := by clear h0 h1 h2 hx0 hx1; omega
    rw [pw_succ] at h1
    have hpp := pp_pos i
    simp only [vb]
    by_cases hu : u > 127
    · rw [if_pos hu]
      have hm : (u % 128 + 128) % 128 = u % 128 := by omega
      have hs := split7 u (pp i)
      have hp1 : pp (i + 1) = pp i * 128 := rfl
      have h5 : u % 128 * pp i ≤ 127 * pp i := Int.mul_le_mul_of_nonneg_right (by omega) (by omega)
      have hge : 0 ≤ (u % 128) * pp i := Int.mul_nonneg (by omega) (by omega)
      simp only [List.cons_append, rdn]
      rw [if_neg (by clear h2 hs h5; omega), if_neg (by clear h2 hs h5; omega), if_neg (by clear h2 hs h5; omega), more_small hi8, hm]
      rw [ih (i + 1) (x + u % 128 * pp i) (u / 128) rest (by clear h2 hs h5; omega) (by clear h2 hs h5; omega) (by clear h2 hs h5; omega) (fun _ => by clear h2 hs h5; omega) (by rw [hp1]; clear h5 hge h1 hx0 hx1; omega) (by clear hs h5 h2; omega) (by rw [hp1]; clear hs h2; omega), hp1]
      rw [show x + u % 128 * pp i + u / 128 * (pp i * 128) = x + u * pp i by omega, List.length_cons, show i + 1 + (vb f (u / 128)).length = i + ((vb f (u / 128)).length + 1) by omega]
    · rw [if_neg hu]
      simp only [List.cons_append, rdn]
      rw [if_neg (by clear h2; omega), if_neg (fun h => by clear h2 h1 hx0 hx1; rcases h.2 with h | h; omega; have := hz h.2; omega), if_pos (by clear h2; omega), more_small hi8, Int.emod_eq_of_lt h0 (by clear h2; omega)]
      rfl
theorem rdn_one (st : Bool) {v : Int} (hv : I64 v) (rest : List Int) : rdn st (enc v ++ rest) 0 0 = some (v, (enc v).length) := by
  have := zig_lt v hv.1 hv.2
  have h := rdn_enc st 9 0 0 (zig v) rest rfl (zig_nonneg v) (by rw [pw_nine]; omega) (by omega) (by simp only [pp]; omega) (by omega) (by decide)
  simp [pp, unz_zig] at h
  exact h
theorem rdn_any (f : Nat) : ∀ (l : List Int) (i : Nat) (x v : Int) (k : Nat), Byt l → f + i = 9 → 0 ≤ x → x < pp i → rdn true l i x = some (v, k) →
    ∃ u, 0 ≤ u ∧ (0 < i → 0 < u) ∧ v = unz (x + u * pp i) ∧ k = i + (vb f u).length ∧ l = vb f u ++ l.drop (vb f u).length := by
  induction f with
  | zero =>
    intro l i x v k hB hf hx0 hx1 h
    obtain rfl : i = 9 := by omega
    cases l with
    | nil => cases h
    | cons c l =>
      have hc := hB c (List.mem_cons_self ..)
      simp only [rdn] at h
      rw [if_neg (by omega)] at h
      split at h
      · cases h
      rename_i h2
      have hc1 : 0 < c ∧ c ≤ 1 := by simp at h2; omega
      rw [if_pos (by omega)] at h
      injection h with h
      injection h with e1 e2
      have h99 : pp 9 = 9223372036854775808 := by decide
      refine ⟨c, by omega, fun _ => by omega, ?_, by simp [vb, ← e2], by simp [vb]⟩
      rw [← e1]
      unfold more
      rw [h99, Int.emod_eq_of_lt (a := c) (by omega) (by omega), Int.emod_eq_of_lt (b := 18446744073709551616) (by omega) (by omega)]
  | succ f ih =>
    intro l i x v k hB hf hx0 hx1 h
    cases l with
    | nil => cases h
    | cons c l =>
      have hc := hB c (List.mem_cons_self ..)
      have hi8 : i ≤ 8 := by omega
      simp only [rdn] at h
      rw [if_neg (by omega)] at h
      split at h
      · cases h
      rename_i h2
      have h2' : ¬ (c = 0 ∧ 0 < i) := by simp at h2; omega
      split at h
      · rename_i h3
        injection h with h
        injection h with e1 e2
        rw [more_small hi8, Int.emod_eq_of_lt hc.1 h3] at e1
        have hv : vb (f + 1) c = [c] := by simp only [vb]; rw [if_neg (by omega)]
        exact ⟨c, hc.1, fun _ => by omega, e1.symm, by rw [hv, ← e2]; rfl, by rw [hv]; rfl⟩
      · have hm := more_lt hi8 (c := c) hx0 hx1
        obtain ⟨u, g0, g1, g2, g3, g4⟩ := ih l (i + 1) _ v k (fun y hy => hB y (List.mem_cons_of_mem _ hy)) (by omega) hm.1 hm.2 h
        have g1 := g1 (by omega)
        have hp1 : pp (i + 1) = pp i * 128 := rfl
        have hv : vb (f + 1) (c % 128 + 128 * u) = c :: vb f u := by
          simp only [vb]
          rw [if_pos (by omega), show (c % 128 + 128 * u) % 128 + 128 = c by omega, show (c % 128 + 128 * u) / 128 = u by omega]
        refine ⟨c % 128 + 128 * u, by omega, fun _ => by omega, ?_, ?_, ?_⟩
        · rw [g2, more_small hi8, hp1, Int.add_mul, show 128 * u * pp i = u * (pp i * 128) by rw [Int.mul_comm 128 u, Int.mul_assoc, Int.mul_comm 128], Int.add_assoc]
        · rw [hv, g3, List.length_cons]; omega
        · rw [hv, List.length_cons, List.drop_succ_cons, List.cons_append, ← g4]
/-- What is read in just one way is one's own bytes. -/
theorem rdn_own {l : List Int} (hB : Byt l) {v : Int} {k : Nat} (h : rdn true l 0 0 = some (v, k)) : I64 v ∧ k = (enc v).length ∧ l = enc v ++ l.drop k := by
  obtain ⟨u, g0, _, g2, g3, g4⟩ := rdn_any 9 l 0 0 v k hB rfl (Int.le_refl 0) (by decide) h
  have hv : v = unz u := by simpa [pp] using g2
  have he : enc v = vb 9 u := by unfold enc; rw [hv, zig_unz u g0]
  rw [Nat.zero_add] at g3
  refine ⟨(rdn_far true l 0 0 v k h (Int.le_refl 0) (by decide)).2.2.2, by rw [he, g3], ?_⟩
  rw [he, g3]; exact g4
end Go.Ab
end
section
/-! Rows of numbers in bytes. -/
namespace Go.Ab
@[simp] theorem rowRw_z0 {H X : AH} : rowRw (H ++ X) 0 H.length = rowRw X 0 0 := rowRw_new0 (Nat.zero_le _)
@[simp] theorem rowRw_z {H X : AH} {i : Nat} : rowRw (H ++ X) 0 (H.length + i) = rowRw X 0 i := rowRw_new (Nat.zero_le _)
/-- A slice of bytes of a string. -/
theorem strN_u8s {l : List Int} (h : Byt l) : (strN l).data.toList.map (fun b => AV.int .u8 b.toNat) = u8s l := by
  rw [strN_data, List.map_map]
  unfold u8s
  refine List.map_congr_left fun x hx => ?_
  have := h x hx
  simp
  omega
theorem strN_get {l : List Int} (h : Byt l) {i : Nat} (hi : i < l.length) : ((strN l).data.toList[i]?).map (fun c => AV.int .u8 c.toNat) = some (.int .u8 (l.getD i 0)) := by
  have := congrArg (fun l => l[i]?) (strN_u8s h)
  simp only [List.getElem?_map] at this
  rw [this]
  simp [u8s, List.getElem?_eq_getElem hi]
def encs (l : List Int) : List Int := (l.map enc).flatten
theorem encs_app (a b : List Int) : encs (a ++ b) = encs a ++ encs b := by simp [encs]
theorem encs_one (n : Int) : encs [n] = enc n := by simp [encs]
theorem encs_cons (n : Int) (l : List Int) : encs (n :: l) = enc n ++ encs l := by simp [encs]
theorem encs_take {l : List Int} {i : Nat} (hi : i < l.length) : encs (l.take (i + 1)) = encs (l.take i) ++ enc (l.getD i 0) := by
  rw [List.take_add_one, List.getElem?_eq_getElem hi, encs_app]
  simp [encs, hi]
theorem encs_len : ∀ (l : List Int), (encs l).length ≤ 10 * l.length
  | [] => by simp [encs]
  | n :: l => by
    have h1 := encs_len l
    have h2 := (enc_len n).2
    rw [encs_cons]
    simp; omega
theorem encs_byt {l : List Int} (h : ∀ n ∈ l, I64 n) : Byt (encs l) := fun x hx => by
  simp only [encs, List.mem_flatten, List.mem_map] at hx
  obtain ⟨_, ⟨n, hn, rfl⟩, hx⟩ := hx
  exact enc_byt (h n hn) x hx
theorem encs_nil_iff {l : List Int} (h : encs l = []) : l = [] := by
  cases l with
  | nil => rfl
  | cons n l =>
    rw [encs_cons] at h
    have := (enc_len n).1
    simp at h
    rw [h.1] at this
    simp at this
theorem encs_inj : ∀ {a b : List Int}, (∀ n ∈ a, I64 n) → (∀ n ∈ b, I64 n) → encs a = encs b → a = b
  | [], b, _, _, h => (encs_nil_iff h.symm).symm
  | x :: a, b, ha, hb, h => by
    cases b with
    | nil => exact encs_nil_iff h
    | cons y b =>
      rw [encs_cons, encs_cons] at h
      have h1 := rdn_one true (ha x (by simp)) (encs a)
      rw [h, rdn_one true (hb y (by simp))] at h1
      simp only [Option.some.injEq, Prod.mk.injEq] at h1
      rw [h1.1] at h ⊢
      rw [encs_inj (fun n hn => ha n (by simp [hn])) (fun n hn => hb n (by simp [hn])) (List.append_cancel_left h)]
theorem own_step {bs l : List Int} {at_ kk : Nat} {v : Int} (hB : Byt bs) (h : encs l = bs.take at_) (hr : rdn true (bs.drop at_) 0 0 = some (v, kk)) : encs (l ++ [v]) = bs.take (at_ + kk) := by
  obtain ⟨h1, h2, h3⟩ := rdn_own (hB.drop at_) hr
  rw [encs_app, encs_one, h, List.take_add]
  congr 1
  rw [h3, h2, List.take_left' rfl]
end Go.Ab
end
section
/-! slices.Insert of one element: its text, carried out where the capacity is known. -/
set_option linter.unusedVariables false
set_option linter.unusedSimpArgs false
set_option maxHeartbeats 4000000
set_option maxRecDepth 100000
namespace Go.Proofs.Ytjpmddjibeecbaa.T.Ins
open Go Go.Ab
@[simp] theorem q3 : apN.ty 3 = some t3 := by kernel_rfl
@[simp] theorem q4 : apN.ty 4 = some t4 := by kernel_rfl
@[simp] theorem q22 : apN.ty 22 = some t22 := by kernel_rfl
@[simp] theorem q24 : apN.ty 24 = some t24 := by kernel_rfl
@[simp] theorem qpl : apN.pl = true := rfl
@[simp] theorem qx : apN.ext 42 = some overlapsX := rfl
theorem qf : apN.fn 37 = some f37 := by kernel_rfl
theorem dx11 : drawC apN (drawOf T.c37 11).toList [0, 1, 2, 3, 4, 5, 6, 7, 8] [[], [], [], [1, 2], [0, 1, 2, 3], [], [], [5, 6], [0, 1, 2, 3, 4, 5, 6, 7]] = some d37_11 := by kernel_rfl
theorem dx15 : drawC apN (drawOf T.c37 15).toList [0, 1, 2, 3, 4, 5, 6, 7, 8] [[], [], [], [1, 2], [0, 1, 2, 3], [], [], [5, 6], [0, 1, 2, 3, 4, 5, 6, 7]] = some d37_15 := by kernel_rfl
section
variable {H : AH} {b n c i bv k o sz : Nat} {l lv : List AV}
theorem aslice_lo {cap : Option Nat} (h : i ≤ n) : aslice H sz (.slice (some (b, o)) n cap sz) (some (.int .i64 (i : Int))) none none = some (.slice (some (b, o + i * sz)) (n - i) (cap.map (· - i)) sz) := by
  have h1 : (0 : Int) ≤ i ∧ (i : Int) ≤ n := by omega
  simp [aslice, abound, h]
theorem aslice_hi {z : Int} (hz : z = i) (h : i ≤ c) : aslice H sz (.slice (some (b, o)) n (some c) sz) none (some (.int .i64 z)) none = some (.slice (some (b, o)) i (some c) sz) := by
  subst hz
  simp [aslice, abound, h]
theorem aslice_lo' {z : Int} (hz : z = i) {cap : Option Nat} (h : i ≤ n) : aslice H sz (.slice (some (b, o)) n cap sz) (some (.int .i64 z)) none none = some (.slice (some (b, o + i * sz)) (n - i) (cap.map (· - i)) sz) := by
  subst hz
  exact aslice_lo h
theorem first1 {cv : Option Nat} (hr : rowOf H bv = some lv) (hlv : lv.length = sz) : firstC H sz 1 (.slice (some (bv, 0)) 1 cv sz) = some lv := by
  simp [firstC, hr, ← hlv]
theorem app_in {by_ : Nat} {cv : Option Nat} (hz : 0 < sz) (hby : 0 < by_) (hr : rowOf H bv = some lv) (hlv : lv.length = sz) (ho : lv.all AV.one = true) (hb : H[b]? = some (.cells l .rw)) (hl : l.length = c * sz) (hc : n + 1 ≤ c) :
    aappend 0 H sz by_ (.slice (some (b, 0)) n (some c) sz) (.slice (some (bv, 0)) 1 cv sz) = some (.slice (some (b, 0)) (n + 1) (some c) sz, H.set b (.cells (splice l (n * sz) lv) .rw)) := by
  have h1 : n * sz ≤ l.length := by rw [hl]; exact Nat.mul_le_mul_right _ (by omega)
  have h2 : (n + 1) * sz ≤ l.length := by rw [hl]; exact Nat.mul_le_mul_right _ (by omega)
  have hf := first1 (cv := cv) hr hlv
  rw [aappend_eq, if_pos (by simp [hz, hby])]
  simp only [lenOf, Option.bind_some, hf, ho, Bool.true_eq_false, if_false]
  simp [aappendC, rowOf_rw hb, rowRw_rw hb, h1, h2, hc]
theorem app_new {by_ : Nat} {cv : Option Nat} (hz : 0 < sz) (hby : 0 < by_) (hr : rowOf H bv = some lv) (hlv : lv.length = sz) (ho : lv.all AV.one = true) (hb : H[b]? = some (.cells l .rw)) (hl : l.length = n * sz) (hrm : (n + 1) * by_ ≤ room) :
    aappend 0 H sz by_ (.slice (some (b, 0)) n (some n) sz) (.slice (some (bv, 0)) 1 cv sz) = some (.slice (some (H.length, 0)) (n + 1) none sz, H ++ [.cells (l ++ lv) .rw]) := by
  have hf := first1 (cv := cv) hr hlv
  rw [aappend_eq, if_pos (by simp [hz, hby])]
  simp only [lenOf, Option.bind_some, hf, ho, Bool.true_eq_false, if_false]
  simp [aappendC, rowOf_rw hb, rowRw_rw hb, ← hl, hrm]
theorem acopy_to {s : AV} {m : Nat} {xs R : List AV} {cap : Option Nat} (hs : szOk sz s = true) (hz : 0 < sz) (hm : lenOf s = some m) (hx : firstC H sz (min m n) s = some xs) (h1 : xs.all AV.one = true) (h0 : xs ≠ []) (hl : H[b]? = some (.cells l .rw)) (hf : o + xs.length ≤ l.length) (hR : R = splice l o xs) :
    acopy 0 H sz (.slice (some (b, o)) n cap sz) s = some (.int .i64 (min m n : Nat), H.set b (.cells R .rw)) := by
  subst hR
  unfold acopy
  rw [hs, hm]
  simp only [szOk, lenOf, Option.bind_some, beq_self_eq_true, Bool.and_true, Bool.true_and, hx, h1, rowRw_rw hl, h0, hf]
  simp [hz]
theorem ins_run (hb : H[b]? = some (.cells l .rw)) (hv : H[bv]? = some (.cells lv .pl)) (hbv : bv ≠ b) (hl : l.length = c * 6) (hn : n ≤ c) (hi : i ≤ n) (hlv : lv.length = 6) (ho : lv.all AV.one = true) (hol : (l.take (n * 6)).all AV.one = true) (hn2 : n ≤ 1000000) :
    Hx (callA apN (k + 1) (.func 37 [] []) [.slice (some (b, 0)) n (some c) 6, .int .i64 i, .slice (some (bv, 0)) 1 (some 1) 6] 0 H) (InsPost 6 H b n c i l lv) := by
  rw [hx_go qf rfl, b37]
  have rb := rowOf_rw hb
  have rwb := rowRw_rw hb
  have rv : rowOf H bv = some lv := by simp [rowOf, hv]
  have lt := lt_of_get hb
  have hi0 : (0 : Int) ≤ i := by omega
  have hi1 : (i : Int) ≤ n := by omega
  have hbl : b < H.length := lt
  by_cases hin : i = n
  · subst hin
    have hle := Nat.le_refl i
    by_cases hc : i + 1 ≤ c
    · have key := app_in (by_ := 48) (cv := some 1) (by omega) (by omega) rv hlv ho hb hl hc
      simp [aslice_lo, key]
      refine ⟨b, some c, l.drop (i * 6 + 6), _, _, rfl, ?_, fun x hx hn => ?_, .inl ⟨rfl, rfl⟩, List.getElem?_set_self hbl⟩
      · rw [List.getElem?_set_self hbl]
        have : (i * 6 + 6) = i * 6 + lv.length := by omega
        simp [newR, splice, this]
      · rw [List.getElem?_set_ne (by omega)]
    · have hic : c = i := by omega
      subst hic
      have key := app_new (by_ := 48) (cv := some 1) (by omega) (by omega) rv hlv ho hb hl (by unfold room; omega)
      simp [aslice_lo, key]
      refine ⟨H.length, none, [], l, .rw, rfl, ?_, fun x hx hn => ?_, .inr ⟨Nat.le_refl _, rfl⟩, ?_⟩
      · simp [newR, ← hl]
      · rw [List.getElem?_append_left hx]
      · rw [List.getElem?_append_left hbl, hb]
  · have hin' : i < n := by omega
    have hinI : ¬ (i : Int) = n := by omega
    have hne : lv ≠ [] := fun h => by rw [h] at hlv; simp at hlv
    have hne2 : l ≠ [] := fun h => by rw [h] at hl; simp at hl; omega
    have w1 : IntKind.i64.wrap ((n : Int) + 1) = (n : Int) + 1 := wrap_i64 (by omega) (by omega)
    have w2 : IntKind.i64.wrap ((i : Int) + 1) = (i : Int) + 1 := wrap_i64 (by omega) (by omega)
    have a1 := fun (H : AH) (cap : Option Nat) => @aslice_lo H b n i 0 6 cap hi
    have hX1 : ((l.drop (i * 6)).take ((n - i) * 6)).all AV.one = true := by
      rw [List.all_eq_true] at hol ⊢
      intro x hx
      refine hol x ?_
      rw [show (n - i) * 6 = n * 6 - i * 6 by omega, ← List.drop_take] at hx
      exact List.mem_of_mem_drop hx
    have hXl : ((l.drop (i * 6)).take ((n - i) * 6)).length = (n - i) * 6 := by simp; omega
    have hX0 : (l.drop (i * 6)).take ((n - i) * 6) ≠ [] := fun h => by rw [h] at hXl; simp at hXl; omega
    by_cases hc : n + 1 ≤ c
    · have hci : ¬ (c : Int) < (n : Int) + 1 := by omega
      have a2 := fun (H : AH) => aslice_hi (H := H) (b := b) (n := n) (c := c) (i := n + 1) (o := 0) (sz := 6) (z := (n : Int) + 1) (by omega) hc
      have a3 := fun (H : AH) => aslice_lo' (H := H) (b := b) (n := n + 1) (i := i + 1) (o := 0) (sz := 6) (cap := some c) (z := (i : Int) + 1) (by omega) (by omega)
      have a4 := fun (H : AH) => aslice_lo' (H := H) (b := b) (n := n + 1) (i := i) (o := 0) (sz := 6) (cap := some c) (z := (i : Int)) rfl (by omega)
      have ov : overlapsX [.slice (some (bv, 0)) 1 (some 1) 6, .slice (some (b, (i + 1) * 6)) (n + 1 - (i + 1)) (some (c - (i + 1))) 6] H = some (.bool false, H) := by
        unfold overlapsX
        obtain ⟨y, lv', rfl⟩ := List.exists_cons_of_ne_nil hne
        obtain ⟨x, l', rfl⟩ := List.exists_cons_of_ne_nil hne2
        simp only [hv, hb]
        rw [if_pos ⟨hbv, by omega, by omega⟩]
      simp only [Nat.zero_add, Option.map_some] at a1 a2 a3 a4
      simp only [show n + 1 - (i + 1) = n - i by omega] at a3 ov
      simp [a1, w1, hci, hinI, a2, w2, a3, ov]
      refine hx_drawn dx15 fun D cD _ _ => ?_
      have hbD := cD.get hb (by simp)
      have f1 : firstC D 6 (n - i) (.slice (some (b, i * 6)) (n + 1 - i) (some (c - i)) 6) = some ((l.drop (i * 6)).take ((n - i) * 6)) := by
        simp [firstC, rowOf_rw hbD]
        omega
      obtain ⟨X, eX⟩ : ∃ X, X = (l.drop (i * 6)).take ((n - i) * 6) := ⟨_, rfl⟩
      rw [← eX] at hX1 hXl hX0 f1
      obtain ⟨R1, eR1⟩ : ∃ R1, R1 = splice l ((i + 1) * 6) X := ⟨_, rfl⟩
      obtain ⟨R2, eR2⟩ : ∃ R2, R2 = splice R1 (i * 6) lv := ⟨_, rfl⟩
      have hR1 : R1 = l.take ((i + 1) * 6) ++ X ++ l.drop ((n + 1) * 6) := by
        rw [eR1, splice, hXl, show (i + 1) * 6 + (n - i) * 6 = (n + 1) * 6 by omega]
      have hR1l : R1.length = c * 6 := by rw [hR1]; simp [hXl, hl]; omega
      have k1 := acopy_to (H := D) (b := b) (n := n - i) (o := (i + 1) * 6) (sz := 6) (cap := some (c - (i + 1))) (s := .slice (some (b, i * 6)) (n + 1 - i) (some (c - i)) 6) (m := n + 1 - i) (by simp) (by omega) rfl
        (by rw [Nat.min_eq_right (by omega)]; exact f1) hX1 hX0 hbD (by rw [hXl]; omega) eR1
      have lD := cD.1
      have hb1 : (D.set b (.cells R1 .rw))[b]? = some (.cells R1 .rw) := List.getElem?_set_self (by omega)
      have rv1 : rowOf (D.set b (.cells R1 .rw)) bv = some lv := by
        unfold rowOf
        rw [List.getElem?_set_ne (by omega), cD.get hv (by simp)]
      have k2 := acopy_to (H := D.set b (.cells R1 .rw)) (b := b) (n := n + 1 - i) (o := i * 6) (sz := 6) (cap := some (c - i)) (s := .slice (some (bv, 0)) 1 (some 1) 6) (m := 1) (by simp) (by omega) rfl
        (by rw [Nat.min_eq_left (by omega)]; exact first1 rv1 hlv) ho hne hb1 (by rw [hlv]; omega) eR2
      simp [d37_15, w2, a3, a4, k1, k2]
      refine ⟨b, some c, l.drop ((n + 1) * 6), _, _, rfl, ?_, fun x hx hn => ?_, .inl ⟨rfl, rfl⟩, List.getElem?_set_self (by omega)⟩
      · rw [List.getElem?_set_self (by omega), newR_eq, eR2, splice, hR1, hlv, show n * 6 - i * 6 = (n - i) * 6 by omega, ← eX]
        have q1 : (l.take ((i + 1) * 6) ++ X ++ l.drop ((n + 1) * 6)).take (i * 6) = l.take (i * 6) := by
          rw [List.append_assoc, List.take_append_of_le_length (by simp; omega), List.take_take, Nat.min_eq_left (by omega)]
        have q2 : (l.take ((i + 1) * 6) ++ X ++ l.drop ((n + 1) * 6)).drop (i * 6 + 6) = X ++ l.drop ((n + 1) * 6) := by
          rw [List.append_assoc, List.drop_left' (by simp; omega)]
        rw [q1, q2]
        simp
      · rw [List.getElem?_set_ne (by omega)]
        exact cD.2 x hx (by simp)
    · have hcn : c = n := by omega
      subst hcn
      have hci : (c : Int) < (c : Int) + 1 := by omega
      have a2 := fun (H : AH) => aslice_hi (H := H) (b := b) (n := c) (c := c) (i := i) (o := 0) (sz := 6) (z := (i : Int)) rfl hi
      obtain ⟨d, hd⟩ : ∃ d, d = c + 1 - i := ⟨_, rfl⟩
      have w3 : IntKind.i64.wrap ((c : Int) + 1 - i) = (d : Int) := by rw [wrap_i64 (by omega) (by omega)]; omega
      obtain ⟨Z, hZ⟩ : ∃ Z, Z = (List.replicate d (t24.zero)).flatten := ⟨_, rfl⟩
      simp only [Nat.zero_add, Option.map_some] at a1 a2
      have hZl : Z.length = d * 6 := by
        rw [hZ, flatten_len (sz := 6) _ (fun x hx => by rw [List.eq_of_mem_replicate hx]; rfl), List.length_replicate]
      have kz : aappendZ 0 H t24 (.slice (some (b, 0)) i (some c) 6) (.int .i64 d) = some (.slice (some (H.length, 0)) (c + 1) none 6, H ++ [.cells (l.take (i * 6) ++ Z) .rw]) := by
        unfold aappendZ
        simp only
        rw [if_pos (by simp [t24, room]; exact decide_eq_true (by omega))]
        rw [show (d : Int).toNat = d by omega, ← hZ]
        simp [t24, aappendC, rb, show ¬ d = 0 by omega, show i * 6 ≤ l.length by omega, show ¬ i + d ≤ c by omega, show (i + d) * 48 ≤ room by unfold room; omega]
        omega
      obtain ⟨R0, eR0⟩ : ∃ R0, R0 = l.take (i * 6) ++ Z := ⟨_, rfl⟩
      rw [← eR0] at kz
      have hR0l : R0.length = (c + 1) * 6 := by rw [eR0]; simp [hZl]; omega
      obtain ⟨H1, eH1⟩ : ∃ H1, H1 = H ++ [.cells R0 .rw] := ⟨_, rfl⟩
      have c1 : Chg [] H H1 := by rw [eH1]; exact .app _ _
      have g1 : H1[H.length]? = some (.cells R0 .rw) := by rw [eH1]; simp
      rw [← eH1] at kz
      have a5 := fun (G : AH) => aslice_lo' (H := G) (b := H.length) (n := c + 1) (i := i) (o := 0) (sz := 6) (cap := none) (z := (i : Int)) rfl (by omega)
      have a6 := fun (G : AH) => aslice_lo' (H := G) (b := H.length) (n := c + 1) (i := i + 1) (o := 0) (sz := 6) (cap := none) (z := (i : Int) + 1) (by omega) (by omega)
      obtain ⟨X, eX⟩ : ∃ X, X = (l.drop (i * 6)).take ((c - i) * 6) := ⟨_, rfl⟩
      rw [← eX] at hX1 hXl hX0
      obtain ⟨R1, eR1⟩ : ∃ R1, R1 = splice R0 (i * 6) lv := ⟨_, rfl⟩
      obtain ⟨R2, eR2⟩ : ∃ R2, R2 = splice R1 ((i + 1) * 6) X := ⟨_, rfl⟩
      have rv1 : rowOf H1 bv = some lv := c1.row rv (by simp)
      have k1 := acopy_to (H := H1) (b := H.length) (n := c + 1 - i) (o := i * 6) (sz := 6) (cap := none) (s := .slice (some (bv, 0)) 1 (some 1) 6) (m := 1) (by simp) (by omega) rfl
        (by rw [Nat.min_eq_left (by omega)]; exact first1 rv1 hlv) ho hne g1 (by rw [hlv]; omega) eR1
      have hR1 : R1 = l.take (i * 6) ++ (lv ++ Z.drop 6) := by
        have q0 : (l.take (i * 6)).length = i * 6 := by simp; omega
        rw [eR1, splice, eR0, hlv, List.take_left' q0, show i * 6 + 6 = (l.take (i * 6)).length + 6 by omega, ← List.drop_drop, List.drop_left, List.append_assoc]
      have hR1l : R1.length = (c + 1) * 6 := by rw [hR1]; simp [hZl, hlv]; omega
      simp only [t24] at kz
      simp only [Nat.zero_add, Option.map_none, Option.map_some] at a5 a6
      simp only [show c + 1 - (i + 1) = c - i by omega] at a6
      simp [a1, w1, hci, hinI, a2, w3, Ab.apI, kz, a5, k1]
      refine hx_drawn dx11 fun D cD _ _ => ?_
      have l1 : H1.length = H.length + 1 := by rw [eH1]; simp
      have gD : D[H.length]? = some (.cells R1 .rw) := cD.get (List.getElem?_set_self (by omega)) (by simp)
      have hbD : D[b]? = some (.cells l .rw) := cD.get (by rw [List.getElem?_set_ne (by omega)]; exact c1.get hb (by simp)) (by simp)
      have f1 : firstC D 6 (c - i) (.slice (some (b, i * 6)) (c - i) (some (c - i)) 6) = some X := by
        rw [eX]
        simp [firstC, rowOf_rw hbD]
        omega
      have k2 := acopy_to (H := D) (b := H.length) (n := c - i) (o := (i + 1) * 6) (sz := 6) (cap := none) (s := .slice (some (b, i * 6)) (c - i) (some (c - i)) 6) (m := c - i) (by simp) (by omega) rfl
        (by rw [Nat.min_self]; exact f1) hX1 hX0 gD (by rw [hXl, hR1l]; omega) eR2
      have lD := cD.1
      rw [List.length_set] at lD
      simp [d37_11, w2, a1, a6, k2]
      refine ⟨H.length, none, [], l, .rw, rfl, ?_, fun x hx hn => ?_, .inr ⟨Nat.le_refl _, rfl⟩, ?_⟩
      · rw [List.getElem?_set_self (by omega), newR_eq, eR2, splice, hXl, show c * 6 - i * 6 = (c - i) * 6 by omega, ← eX]
        have q1 : R1.take ((i + 1) * 6) = l.take (i * 6) ++ lv := by
          rw [hR1, ← List.append_assoc, List.take_left' (by simp [hlv]; omega)]
        have q2 : R1.drop ((i + 1) * 6 + (c - i) * 6) = [] := List.drop_eq_nil_of_le (by omega)
        rw [q1, q2]
        simp
      · rw [List.getElem?_set_ne (by omega), cD.2 x (by simp; omega) (by simp), List.getElem?_set_ne (by omega)]
        exact c1.2 x hx (by simp)
      · rw [List.getElem?_set_ne (by omega)]
        exact hbD
end
end Go.Proofs.Ytjpmddjibeecbaa.T.Ins
end
section
/-! slices.Insert of one element: a contract. -/
set_option linter.unusedVariables false
set_option linter.unusedSimpArgs false
set_option maxHeartbeats 4000000
set_option maxRecDepth 100000
namespace Go.Proofs.Ytjpmddjibeecbaa.T.Ins
open Go Go.Ab
theorem agreeN : Agree Try.prog apN := agree0.exts (fun _ => rfl) extP (fun f g h => by
  unfold extP at h
  split at h
  · rename_i hf
    subst hf
    cases h
    obtain ⟨i, d, z, ht⟩ := agree0.toTyAgree.get (t := 24) (ti := t24) (by kernel_rfl)
    exact overlaps_ok (tS := 22) (tR := 4) (e := 24) Try.func42 (by kernel_rfl) (by kernel_rfl) (by kernel_rfl) (by kernel_rfl) (by kernel_rfl) (fun w => run_sizeOf' ht w)
  · cases h) true
section
variable {H : AH} {bv k : Nat} {lv : List AV} {s : AV}
theorem ins_run0 (hv : H[bv]? = some (.cells lv .pl)) (hlv : lv.length = 6) (ho : lv.all AV.one = true) (hs : (∃ c s', s = .slice none 0 c s') ∨ (∃ b o l, s = .slice (some (b, o)) 0 (some 0) 6 ∧ rowOf H b = some l ∧ o ≤ l.length)) :
    callA apN (k + 1) (.func 37 [] []) [s, .int .i64 0, .slice (some (bv, 0)) 1 (some 1) 6] 0 H = some (.slice (some (H.length, 0)) 1 none 6, H ++ [.cells lv .rw]) := by
  refine Hx.eqn ?_
  rw [hx_go qf rfl, b37]
  have rv : rowOf H bv = some lv := by simp [rowOf, hv]
  have hf := first1 (cv := some 1) rv hlv
  rcases hs with ⟨c, s', rfl⟩ | ⟨b, o, l, rfl, hl, hol⟩
  · have key : aappend 0 H 6 48 (.slice none 0 c s') (.slice (some (bv, 0)) 1 (some 1) 6) = some (.slice (some (H.length, 0)) 1 none 6, H ++ [.cells lv .rw]) := by
      rw [aappend_eq, if_pos (by simp)]
      simp only [lenOf, Option.bind_some, hf, ho, Bool.true_eq_false, if_false]
      simp [aappendC, room]
    simp [aslice, abound, key]
  · have key : aappend 0 H 6 48 (.slice (some (b, o)) 0 (some 0) 6) (.slice (some (bv, 0)) 1 (some 1) 6) = some (.slice (some (H.length, 0)) 1 none 6, H ++ [.cells lv .rw]) := by
      rw [aappend_eq, if_pos (by simp)]
      simp only [lenOf, Option.bind_some, hf, ho, Bool.true_eq_false, if_false]
      simp [aappendC, room, hl, hol]
    simp [aslice, abound, key]
end
theorem primOk : ∀ f g, insP f = some g → PrimOk Try.prog f g := fun f g h => by
  unfold insP at h
  split at h
  · rename_i hf
    subst hf
    cases h
    exact insX_ok (K := 5) agreeN rfl (by omega) (fun H s bv lv a b c d => ins_run0 a b c d) (fun H b n c i bv l lv a1 a2 a3 a4 a5 a6 a7 a8 a9 a10 => ins_run a1 a2 a3 a4 a5 a6 a7 a8 a9 a10)
  · cases h
end Go.Proofs.Ytjpmddjibeecbaa.T.Ins
namespace Go.Proofs.Ytjpmddjibeecbaa.T
open Go Go.Ab
theorem agreeP : Agree Try.prog apP := Ins.agreeN.prims _ Ins.primOk
end Go.Proofs.Ytjpmddjibeecbaa.T
end
section
/-! What is known: written by wip/ab/abgen.py (an own program). -/
set_option maxRecDepth 100000
namespace Go.Proofs.Ytjpmddjibeecbaa.T
open Go Go.Ab
theorem known0 : (callA apP 1000 (.func 8 [] []) [] 0 []).map (·.1) = some (.bool true) := by kernel_rfl
theorem known_ok {k lo : Nat} {H : AH} : callA ap (k + 1) (.func 8 [] []) [] lo H = some (.bool true, H) := rfl
theorem agree : Agree Try.prog ap := ((agreeP.known (by rfl) known0).set _ _)
end Go.Proofs.Ytjpmddjibeecbaa.T
end
section
/-! Orders. -/
set_option linter.unusedVariables false
set_option linter.unusedSimpArgs false
set_option maxHeartbeats 4000000
set_option maxRecDepth 100000
namespace Go.Proofs.Ytjpmddjibeecbaa.T.Qu
open Go Go.Ab
structure Od where
  id : Int
  acc : Int
  inst : Int
  side : Int
  q : Int
  p : Int
  deriving DecidableEq
def Od.cs (o : Od) : List AV := [.int .i64 o.id, .int .i64 o.acc, .int .i64 o.inst, .int .i64 o.side, .int .i64 o.q, .int .i64 o.p]
/-- Which may be. -/
def rightO (o : Od) : Bool := decide (1 ≤ o.id) && (decide (o.id ≤ 1099511627776) && (decide (1 ≤ o.acc) && (decide (o.acc ≤ 24) && (decide (0 ≤ o.inst) && (decide (o.inst < 6) && ((decide (o.side = 1) || decide (o.side = 2)) && (decide (1 ≤ o.q) && (decide (o.q ≤ 1000000000) && (decide (1 ≤ o.p) && decide (o.p ≤ 1000000000000))))))))))
section
variable {k : Nat} {H : AH}
theorem order_ok {o : Od} : callA ap (k + 1) (.func 25 [] []) [.agg o.cs] 0 H = some (.bool (rightO o), H) := by
  refine Hx.eqn ?_
  rw [hx_gg fn25 rfl, b25]
  have hs : o.side = 1 ∨ (¬ o.side = 1 ∧ o.side = 2) ∨ (¬ o.side = 1 ∧ ¬ o.side = 2) := by omega
  by_cases h0 : 1 ≤ o.id
  case neg => simp [Od.cs, rightO, *]
  by_cases h1 : o.id ≤ 1099511627776
  case neg => simp [Od.cs, rightO, *]
  by_cases h2 : 1 ≤ o.acc
  case neg => simp [Od.cs, rightO, *]
  by_cases h3 : o.acc ≤ 24
  case neg => simp [Od.cs, rightO, *]
  by_cases h4 : 0 ≤ o.inst
  case neg => simp [Od.cs, rightO, *]
  by_cases h5 : o.inst < 6
  case neg => simp [Od.cs, rightO, *]
  rcases hs with s | ⟨s, s'⟩ | ⟨s, s'⟩
  rotate_right
  · simp [Od.cs, rightO, h0, h1, h2, h3, h4, h5, s, s']
  all_goals
    by_cases h7 : 1 ≤ o.q
    case neg => simp [Od.cs, rightO, *]
    by_cases h8 : o.q ≤ 1000000000
    case neg => simp [Od.cs, rightO, *]
    by_cases h9 : 1 ≤ o.p
    case neg => simp [Od.cs, rightO, *]
    by_cases h10 : o.p ≤ 1000000000000
    case neg => simp [Od.cs, rightO, *]
    simp [Od.cs, rightO, *]
theorem price_ok {p : Int} : callA ap (k + 1) (.func 40 [] []) [.int .i64 p] 0 H = some (.bool (decide (1 ≤ p) && decide (p ≤ 1000000000000)), H) := by
  refine Hx.eqn ?_
  rw [hx_gg fn40 rfl, b40]
  by_cases h0 : 1 ≤ p
  case neg => simp [h0]
  by_cases h1 : p ≤ 1000000000000
  case neg => simp [h0, h1]
  simp [h0, h1]
theorem rorder_ok {o : Od} : callA ap (k + 2) (.func 34 [] []) [.agg o.cs] 0 H = some (.bool (rightO o), H) := by
  refine Hx.eqn ?_
  rw [hx_gg fn34 rfl, b34]
  have hs : o.side = 1 ∨ (¬ o.side = 1 ∧ o.side = 2) ∨ (¬ o.side = 1 ∧ ¬ o.side = 2) := by omega
  by_cases h0 : 1 ≤ o.id
  case neg => simp [Od.cs, rightO, price_ok, *]
  by_cases h1 : o.id ≤ 1099511627776
  case neg => simp [Od.cs, rightO, price_ok, *]
  by_cases h2 : 1 ≤ o.acc
  case neg => simp [Od.cs, rightO, price_ok, *]
  by_cases h3 : o.acc ≤ 24
  case neg => simp [Od.cs, rightO, price_ok, *]
  by_cases h4 : 0 ≤ o.inst
  case neg => simp [Od.cs, rightO, price_ok, *]
  by_cases h5 : o.inst < 6
  case neg => simp [Od.cs, rightO, price_ok, *]
  rcases hs with s | ⟨s, s'⟩ | ⟨s, s'⟩
  rotate_right
  · simp [Od.cs, rightO, price_ok, h0, h1, h2, h3, h4, h5, s, s']
  all_goals
    by_cases h7 : 1 ≤ o.q
    case neg => simp [Od.cs, rightO, price_ok, *]
    by_cases h8 : o.q ≤ 1000000000
    case neg => simp [Od.cs, rightO, price_ok, *]
    by_cases h9 : 1 ≤ o.p
    case neg => simp [Od.cs, rightO, price_ok, *]
    by_cases h10 : o.p ≤ 1000000000000
    case neg => simp [Od.cs, rightO, price_ok, *]
    simp [Od.cs, rightO, price_ok, *]
/-! rows of orders -/
def odsC (l : List Od) : List AV := (l.map Od.cs).flatten
theorem cs6 {l : List Od} : ∀ x ∈ l.map Od.cs, x.length = 6 := by simp only [List.mem_map]; rintro _ ⟨a, _, rfl⟩; rfl
@[simp] theorem odsC_len {l : List Od} : (odsC l).length = 6 * l.length := by
  unfold odsC
  rw [flatten_len (sz := 6) _ cs6, List.length_map, Nat.mul_comm]
theorem odsC_app (a b : List Od) : odsC (a ++ b) = odsC a ++ odsC b := by simp [odsC]
theorem odsC_snoc (a : List Od) (x : Od) : odsC (a ++ [x]) = odsC a ++ x.cs := by simp [odsC]
theorem odsC_one (l : List Od) : (odsC l).all AV.one = true := by
  unfold odsC
  rw [List.all_eq_true]
  intro x hx
  obtain ⟨y, hy, hx⟩ := List.mem_flatten.1 hx
  obtain ⟨a, _, rfl⟩ := List.mem_map.1 hy
  simp [Od.cs] at hx
  rcases hx with rfl | rfl | rfl | rfl | rfl | rfl <;> rfl
theorem odsC_refs (l : List Od) : refsL (odsC l) = [] := by
  induction l with
  | nil => rfl
  | cons a l ih => rw [show odsC (a :: l) = a.cs ++ odsC l from rfl]; simp [Od.cs, ih]
abbrev SO (H : AH) (v : AV) (l : List Od) : Prop := SL H 6 v (odsC l)
theorem SO.form {v : AV} {l : List Od} (h : SO H v l) : ∃ a c s, v = .slice a l.length c s := by
  have := sle_form (es := l.map Od.cs) h cs6 (by omega)
  simpa using this
theorem SO.all {v : AV} {l : List Od} (h : SO H v l) (h0 : l ≠ []) : ∃ b o c r, v = .slice (some (b, o)) l.length c 6 ∧ rowOf H b = some r ∧
    ∀ i (hi : i < l.length), o + i * 6 + 6 ≤ r.length ∧ (r.drop (o + i * 6)).take 6 = l[i].cs ∧ ∀ j, j < 6 → r[o + i * 6 + j]? = l[i].cs[j]? := by
  obtain ⟨b, o, c, r, rfl, g1, g2⟩ := sle_all (es := l.map Od.cs) h cs6 (by omega) (by simpa using h0)
  exact ⟨b, o, c, r, by simp, g1, fun i hi => g2 i _ (by simp [hi])⟩
def dO : Od := ⟨0, 0, 0, 0, 0, 0⟩
/-- The first n are right, in order. -/
def ordB (l : List Od) : Nat → Bool
  | 0 => true
  | n + 1 => ordB l n && (rightO (l.getD n dO) && (decide (n = 0) || decide ((l.getD (n - 1) dO).id < (l.getD n dO).id)))
def rightL (l : List Od) : Bool := ordB l l.length && decide (l.length ≤ 32)
theorem ordB_no {l : List Od} {i : Nat} (h : ordB l (i + 1) = false) : ∀ n, i < n → ordB l n = false
  | n + 1, hn => by
    rcases Nat.lt_or_ge i n with g | g
    · simp [ordB, ordB_no h n g]
    · have : n = i := by omega
      subst this
      exact h
theorem getd {l : List Od} {i : Nat} (hi : i < l.length) : l.getD i dO = l[i] := by simp [List.getD_eq_getElem?_getD, hi]
end
end Go.Proofs.Ytjpmddjibeecbaa.T.Qu
end
section
/-! Orders: which rows may be; are rows alike? -/
set_option linter.unusedVariables false
set_option linter.unusedSimpArgs false
set_option maxHeartbeats 4000000
set_option maxRecDepth 100000
namespace Go.Proofs.Ytjpmddjibeecbaa.T.Qu
open Go Go.Ab
section
variable {k : Nat} {H : AH}
theorem right_ok {v : AV} {l : List Od} (h : SO H v l) (hl : l.length ≤ 1000000) (hk : l.length + 10 < k) : callA ap k (.func 15 [] []) [v] 0 H = some (.bool (rightL l), H) := by
  obtain ⟨k, rfl⟩ : ∃ k', k = k' + 2 := ⟨k - 2, by omega⟩
  refine Hx.eqn ?_
  rw [hx_gg fn15 rfl, b15]
  obtain ⟨a, c, s, rfl⟩ := h.form
  simp
  refine hx_up (fun i st => ∃ H', st = ⟨sp 34 [(0, .slice a l.length c s), (5, .slice a l.length c s), (6, .int .i64 l.length), (7, .int .i64 i)], H', []⟩ ∧ Chg [] H H' ∧ ordB l i = true) l.length ?_ ?_ (by omega) ⟨H, by simp [maskS], .refl, rfl⟩
  · rintro i st hi ⟨H2, rfl, c2, ho⟩
    obtain ⟨b, o, c', r, e, g0, g⟩ := SO.all (h.keep c2) (by intro h; simp [h] at hi)
    cases e
    obtain ⟨g1, g2, g3⟩ := g i hi
    have hi' : (i : Int) < l.length := by omega
    have w : IntKind.i64.wrap ((i : Int) + 1) = (i : Int) + 1 := wrap_i64 (by omega) (by omega)
    obtain ⟨x, hx⟩ : ∃ x, x = l[i] := ⟨_, rfl⟩
    rw [← hx] at g2 g3
    obtain ⟨G, eG⟩ : ∃ G, G = H2 ++ [.cells x.cs .rw] := ⟨_, rfl⟩
    have cG : Chg [] H2 G := by rw [eG]; exact .app _ _
    have rG : G[H2.length]? = some (.cells x.cs .rw) := by rw [eG]; simp
    have ox := fun (H : AH) => @order_ok k H x
    simp only [Od.cs] at eG g2 g3 ox rG
    simp [hi', hi, g0, g1, g2]
    rw [← eG]
    refine hx_drawn dc15_4 fun H3 c3 _ _ => ?_
    have r3 := rowOf_rw (c3.get rG (by simp))
    have g3' := (cG.tr c3).row g0 (by simp)
    cases hr : rightO x with
    | false =>
      have hno : ordB l (i + 1) = false := by rw [ordB, getd hi, ← hx, hr]; simp
      simp [d15_4, r3, ox, hr, rightL, ordB_no hno _ hi, gcF_flat, (c2.tr cG).tr c3]
    | true =>
      by_cases h0 : i = 0
      · subst h0
        have hyes : ordB l 1 = true := by rw [ordB, ho, getd hi, ← hx, hr]; simp
        simp [d15_4, r3, ox, hr, maskS]
        exact ⟨H3, ⟨wrap_i64 (by omega) (by omega), rfl⟩, (c2.tr cG).tr c3, hyes⟩
      · obtain ⟨j, rfl⟩ : ∃ j, i = j + 1 := ⟨i - 1, by omega⟩
        obtain ⟨f1, f2, f3⟩ := g j (by omega)
        obtain ⟨y, hy⟩ : ∃ y, y = l[j] := ⟨_, rfl⟩
        rw [← hy] at f3
        have f30 := f3 0 (by omega)
        simp only [Od.cs, Nat.add_zero, List.getElem?_cons_zero] at f30
        have hj : (j : Int) < l.length := by omega
        have hj0 : (0 : Int) < (j : Int) + 1 := by omega
        have w1 : IntKind.i64.wrap (j : Int) = (j : Int) := wrap_i64 (by omega) (by omega)
        by_cases hlt : y.id < x.id
        · have hyes : ordB l (j + 1 + 1) = true := by rw [ordB, ho, getd hi, ← hx, hr, Nat.add_sub_cancel, getd (by omega : j < l.length), ← hy]; simp [hlt]
          have hn : ¬ x.id ≤ y.id := by omega
          simp [d15_4, r3, ox, hr, maskS, w, w1, hj, hj0, g3', f30, hn]
          exact ⟨H3, ⟨wrap_i64 (by omega) (by omega), rfl⟩, (c2.tr cG).tr c3, hyes⟩
        · have hno : ordB l (j + 1 + 1) = false := by rw [ordB, ho, getd hi, ← hx, hr, Nat.add_sub_cancel, getd (by omega : j < l.length), ← hy]; simp [hlt]
          have hn : x.id ≤ y.id := by omega
          simp [d15_4, r3, ox, hr, w, w1, hj, hj0, g3', f30, hn, rightL, ordB_no hno _ hi, gcF_flat, (c2.tr cG).tr c3]
  · rintro st ⟨H2, rfl, c2, ho⟩
    simp [rightL, ho, gcF_flat, c2]
    omega
end
end Go.Proofs.Ytjpmddjibeecbaa.T.Qu
end
section
/-! Orders: which two cross. -/
set_option linter.unusedVariables false
set_option linter.unusedSimpArgs false
set_option maxHeartbeats 4000000
set_option maxRecDepth 100000
namespace Go.Proofs.Ytjpmddjibeecbaa.T.Qu
open Go Go.Ab
section
variable {k : Nat} {H : AH}
def reachB (o : Od) (p : Int) : Bool := if o.side = 1 then decide (p ≤ o.p) else decide (o.p ≤ p)
def crossB (a b : Od) : Bool := rightO a && (rightO b && (decide (a.inst = b.inst) && (!decide (a.side = b.side) && (!decide (a.acc = b.acc) && reachB a b.p))))
section
variable {id acc inst side q p : Int}
theorem order_u : callA ap (k + 1) (.func 25 [] []) [.agg [.int .i64 id, .int .i64 acc, .int .i64 inst, .int .i64 side, .int .i64 q, .int .i64 p]] 0 H = some (.bool (rightO ⟨id, acc, inst, side, q, p⟩), H) := order_ok (o := ⟨id, acc, inst, side, q, p⟩)
theorem rorder_u : callA ap (k + 2) (.func 34 [] []) [.agg [.int .i64 id, .int .i64 acc, .int .i64 inst, .int .i64 side, .int .i64 q, .int .i64 p]] 0 H = some (.bool (rightO ⟨id, acc, inst, side, q, p⟩), H) := rorder_ok (o := ⟨id, acc, inst, side, q, p⟩)
end
theorem reaches_ok {o : Od} {p : Int} : callA ap (k + 1) (.func 28 [] []) [.agg o.cs, .int .i64 p] 0 H = some (.bool (reachB o p), H) := by
  refine Hx.eqn ?_
  rw [hx_gg fn28 rfl, b28]
  by_cases h : o.side = 1 <;> simp [Od.cs, reachB, h]
theorem reaches_u {id acc inst side q p r : Int} : callA ap (k + 1) (.func 28 [] []) [.agg [.int .i64 id, .int .i64 acc, .int .i64 inst, .int .i64 side, .int .i64 q, .int .i64 p], .int .i64 r] 0 H = some (.bool (reachB ⟨id, acc, inst, side, q, p⟩ r), H) := reaches_ok (o := ⟨id, acc, inst, side, q, p⟩)
theorem cross_ok {a b : Od} : callA ap (k + 3) (.func 17 [] []) [.agg a.cs, .agg b.cs] 0 H = some (.bool (crossB a b), H) := by
  refine Hx.eqn ?_
  rw [hx_gg fn17 rfl, b17]
  obtain ⟨id, acc, inst, side, q, p⟩ := a
  obtain ⟨id', acc', inst', side', q', p'⟩ := b
  simp only [Od.cs, crossB]
  cases h1 : rightO ⟨id, acc, inst, side, q, p⟩
  case false => simp [order_u, reaches_u, h1]
  cases h2 : rightO ⟨id', acc', inst', side', q', p'⟩
  case false => simp [order_u, reaches_u, h1, h2]
  by_cases h3 : inst = inst'
  case neg => simp [order_u, reaches_u, h1, h2, h3]
  subst h3
  by_cases h4 : side = side'
  case pos => subst h4; simp [order_u, reaches_u, h1, h2]
  by_cases h5 : acc = acc'
  case pos => subst h5; simp [order_u, reaches_u, h1, h2, h4]
  simp [order_u, reaches_u, h1, h2, h4, h5]
theorem rcross_ok {a b : Od} : callA ap (k + 3) (.func 22 [] []) [.agg a.cs, .agg b.cs] 0 H = some (.bool (crossB a b), H) := by
  refine Hx.eqn ?_
  rw [hx_gg fn22 rfl, b22]
  obtain ⟨id, acc, inst, side, q, p⟩ := a
  obtain ⟨id', acc', inst', side', q', p'⟩ := b
  simp only [Od.cs, crossB]
  cases h1 : rightO ⟨id, acc, inst, side, q, p⟩
  case false => simp [rorder_u, h1]
  cases h2 : rightO ⟨id', acc', inst', side', q', p'⟩
  case false => simp [rorder_u, h1, h2]
  by_cases h3 : inst = inst'
  case neg => simp [rorder_u, h1, h2, h3]
  subst h3
  by_cases h4 : side = side'
  case pos => subst h4; simp [rorder_u, h1, h2]
  by_cases h5 : acc = acc'
  case pos => subst h5; simp [rorder_u, h1, h2, h4]
  by_cases h6 : side = 1
  · subst h6
    simp [rorder_u, reachB, h1, h2, h4, h5]
  · simp [rorder_u, reachB, h1, h2, h4, h5, h6]
theorem cross_u {id acc inst side q p id' acc' inst' side' q' p' : Int} : callA ap (k + 3) (.func 17 [] []) [.agg [.int .i64 id, .int .i64 acc, .int .i64 inst, .int .i64 side, .int .i64 q, .int .i64 p], .agg [.int .i64 id', .int .i64 acc', .int .i64 inst', .int .i64 side', .int .i64 q', .int .i64 p']] 0 H = some (.bool (crossB ⟨id, acc, inst, side, q, p⟩ ⟨id', acc', inst', side', q', p'⟩), H) := cross_ok (a := ⟨id, acc, inst, side, q, p⟩) (b := ⟨id', acc', inst', side', q', p'⟩)
theorem rcross_u {id acc inst side q p id' acc' inst' side' q' p' : Int} : callA ap (k + 3) (.func 22 [] []) [.agg [.int .i64 id, .int .i64 acc, .int .i64 inst, .int .i64 side, .int .i64 q, .int .i64 p], .agg [.int .i64 id', .int .i64 acc', .int .i64 inst', .int .i64 side', .int .i64 q', .int .i64 p']] 0 H = some (.bool (crossB ⟨id, acc, inst, side, q, p⟩ ⟨id', acc', inst', side', q', p'⟩), H) := rcross_ok (a := ⟨id, acc, inst, side, q, p⟩) (b := ⟨id', acc', inst', side', q', p'⟩)
theorem rorders_ok {v : AV} {l : List Od} (h : SO H v l) (hl : l.length ≤ 1000000) (hk : l.length + 10 < k) : callA ap k (.func 33 [] []) [v] 0 H = some (.bool (rightL l), H) := by
  obtain ⟨k, rfl⟩ : ∃ k', k = k' + 4 := ⟨k - 4, by omega⟩
  refine Hx.eqn ?_
  rw [hx_gg fn33 rfl, b33]
  obtain ⟨a, c, s, rfl⟩ := h.form
  by_cases h32 : 32 < (l.length : Int)
  · have : ¬ l.length ≤ 32 := by omega
    simp [h32, rightL, this]
  have h32' : l.length ≤ 32 := by omega
  simp [h32]
  refine hx_up (fun i st => ∃ H', st = ⟨sp 37 [(0, .slice a l.length c s), (3, .int .i64 i)], H', []⟩ ∧ Chg [] H H' ∧ ordB l i = true) l.length ?_ ?_ (by omega) ⟨H, by simp [maskS], .refl, rfl⟩
  · rintro i st hi ⟨H2, rfl, c2, ho⟩
    have hi' : (i : Int) < l.length := by omega
    have w : IntKind.i64.wrap ((i : Int) + 1) = (i : Int) + 1 := wrap_i64 (by omega) (by omega)
    simp [hi', hi]
    refine hx_drawn dc33_6 fun H3 c3 _ _ => ?_
    obtain ⟨b, o, c', r, e, g0, g⟩ := SO.all (h.keep (c2.tr c3)) (by intro h; simp [h] at hi)
    cases e
    obtain ⟨g1, g2, g3⟩ := g i hi
    obtain ⟨x, hx⟩ : ∃ x, x = l[i] := ⟨_, rfl⟩
    rw [← hx] at g2 g3
    have g30 := g3 0 (by omega)
    have ox := fun (k : Nat) (H : AH) => @rorder_ok k H x
    simp only [Od.cs, Nat.add_zero, List.getElem?_cons_zero] at g2 g30 ox
    cases hr : rightO x with
    | false =>
      have hno : ordB l (i + 1) = false := by rw [ordB, getd hi, ← hx, hr]; simp
      simp [d33_6, hi', hi, g0, g1, g2, ox, hr, rightL, ordB_no hno _ hi, gcF_flat, c2.tr c3]
    | true =>
      by_cases h0 : i = 0
      · subst h0
        have hyes : ordB l 1 = true := by rw [ordB, ho, getd hi, ← hx, hr]; simp
        simp only [Nat.zero_mul, Nat.add_zero] at g1 g2
        simp [d33_6, hi', hi, g0, g1, g2, ox, hr, maskS]
        exact ⟨H3, ⟨wrap_i64 (by omega) (by omega), rfl⟩, c2.tr c3, hyes⟩
      · obtain ⟨j, rfl⟩ : ∃ j, i = j + 1 := ⟨i - 1, by omega⟩
        obtain ⟨f1, f2, f3⟩ := g j (by omega)
        obtain ⟨y, hy⟩ : ∃ y, y = l[j] := ⟨_, rfl⟩
        rw [← hy] at f3
        have f30 := f3 0 (by omega)
        simp only [Od.cs, Nat.add_zero, List.getElem?_cons_zero] at f30
        have hj : (j : Int) < l.length := by omega
        have hj1 : (j : Int) + 1 < l.length := by omega
        have hj0 : (0 : Int) < (j : Int) + 1 := by omega
        have hj2 : (0 : Int) ≤ (j : Int) + 1 := by omega
        have w1 : IntKind.i64.wrap (j : Int) = (j : Int) := wrap_i64 (by omega) (by omega)
        by_cases hlt : y.id < x.id
        · have hyes : ordB l (j + 1 + 1) = true := by rw [ordB, ho, getd hi, ← hx, hr, Nat.add_sub_cancel, getd (by omega : j < l.length), ← hy]; simp [hlt]
          have hn : ¬ x.id ≤ y.id := by omega
          simp [d33_6, hi, hj1, hj2, g0, g1, g2, g30, ox, hr, maskS, w, w1, hj, hj0, f30, hn]
          exact ⟨H3, ⟨wrap_i64 (by omega) (by omega), rfl⟩, c2.tr c3, hyes⟩
        · have hno : ordB l (j + 1 + 1) = false := by rw [ordB, ho, getd hi, ← hx, hr, Nat.add_sub_cancel, getd (by omega : j < l.length), ← hy]; simp [hlt]
          have hn : x.id ≤ y.id := by omega
          simp [d33_6, hi, hj1, hj2, g0, g1, g2, g30, ox, hr, w, w1, hj, hj0, f30, hn, rightL, ordB_no hno _ hi, gcF_flat, c2.tr c3]
  · rintro st ⟨H2, rfl, c2, ho⟩
    simp [rightL, ho, gcF_flat, c2, h32']
end
end Go.Proofs.Ytjpmddjibeecbaa.T.Qu
end
section
/-! Rows of orders, of trades: are they alike? Written by queue/alike.py. -/
set_option linter.unusedVariables false
set_option linter.unusedSimpArgs false
set_option maxHeartbeats 4000000
set_option maxRecDepth 100000
namespace Go.Proofs.Ytjpmddjibeecbaa.T.Qu
open Go Go.Ab
section
variable {k : Nat} {H : AH}
theorem eqOd {p q : Od} : eqF ap 0 [(0, 2), (1, 3), (2, 3), (3, 3), (4, 2), (5, 2)] [AV.int .i64 p.id, AV.int .i64 p.acc, AV.int .i64 p.inst, AV.int .i64 p.side, AV.int .i64 p.q, AV.int .i64 p.p] [AV.int .i64 q.id, AV.int .i64 q.acc, AV.int .i64 q.inst, AV.int .i64 q.side, AV.int .i64 q.q, AV.int .i64 q.p] = some (decide (p = q)) := by
  obtain ⟨_, _, _, _, _, _⟩ := p
  obtain ⟨_, _, _, _, _, _⟩ := q
  simp [eqF, eqC]
  rw [Bool.eq_iff_iff]
  simp
theorem orders_eq {v w : AV} {l m : List Od} (ha : SO H v l) (hb : SO H w m) (hl : l.length ≤ 1000000) (hl2 : m.length ≤ 1000000) (hk : l.length + 10 < k) : callA ap k (.func 18 [] []) [v, w] 0 H = some (.bool (decide (l = m)), H) := by
  obtain ⟨k, rfl⟩ : ∃ k', k = k' + 1 := ⟨k - 1, by omega⟩
  refine Hx.eqn ?_
  rw [hx_gg fn18 rfl, b18]
  obtain ⟨x, c, s, rfl⟩ := SO.form ha
  obtain ⟨x', c', s', rfl⟩ := SO.form hb
  by_cases hn : l.length = m.length
  · simp [hn]
    refine hx_up (fun i s1 => ∃ H', s1 = ⟨sp 26 [(0, .slice x m.length c s), (1, .slice x' m.length c' s'), (5, .int .i64 i)], H', []⟩ ∧ Chg [] H H' ∧ ∀ j (h1 : j < l.length) (h2 : j < m.length), j < i → l[j] = m[j]) m.length ?_ ?_ (by omega) ⟨H, rfl, .refl, by simp⟩
    · rintro i _ hi ⟨H', rfl, c1, hq⟩
      have hw : IntKind.i64.wrap ((i : Int) + 1) = ((i + 1 : Nat) : Int) := by rw [wrap_i64 (by omega) (by omega)]; omega
      simp [hi]
      refine hx_drawn dc18_6 fun H1 c2 _ _ => ?_
      have hi' : i < l.length := hn ▸ hi
      have c3 := c1.tr c2
      obtain ⟨b0, o0, c0, r0, e0, g0, gg⟩ := SO.all (ha.keep c3) (by intro h; simp [h] at hi')
      obtain ⟨b1, o1, c1', r1, e1, g2, gg'⟩ := SO.all (hb.keep c3) (by intro h; simp [h] at hi)
      obtain ⟨ga, g1, -⟩ := gg i hi'
      obtain ⟨gb, g3, -⟩ := gg' i hi
      injection e0 with z1 z2 z3 z4
      subst z1 z3 z4
      injection e1 with z1 z2 z3 z4
      subst z1 z3 z4
      have hup : l[i] = m[i] → ∀ j (h1 : j < l.length) (h2 : j < m.length), j < i + 1 → l[j] = m[j] := fun he j h1 h2 hj => by
        rcases Nat.lt_succ_iff_lt_or_eq.1 hj with hj | rfl
        · exact hq j h1 h2 hj
        · exact he
      have hne : ¬ l[i] = m[i] → ¬ l = m := fun h e => h (by subst e; rfl)
      generalize l[i] = p at *
      generalize m[i] = q at *
      simp only [Od.cs] at g1 g3
      by_cases he : p = q
      · subst he
        simp [d18_6, hi, g0, g1, g2, g3, ga, gb, hw, eqV, eqOd]
        exact ⟨H1, rfl, c3, hup rfl⟩
      · simp [d18_6, hi, g0, g1, g2, g3, ga, gb, hw, hne he, eqV, eqOd, he, gcF_flat, c3]
    · rintro _ ⟨H', rfl, c1, hq⟩
      have he : l = m := List.ext_getElem hn fun j h1 h2 => hq j h1 h2 h2
      simp [he, gcF_flat, c1]
  · have hne : ¬ l = m := fun e => hn (by rw [e])
    have hn' : ¬ (l.length : Int) = (m.length : Int) := by omega
    simp [hn', hne]
end
structure Tr where
  b : Int
  s : Int
  i : Int
  q : Int
  p : Int
  deriving DecidableEq
def Tr.cs (o : Tr) : List AV := [.int .i64 o.b, .int .i64 o.s, .int .i64 o.i, .int .i64 o.q, .int .i64 o.p]
section
variable {k : Nat} {H : AH}
def trsC (l : List Tr) : List AV := (l.map Tr.cs).flatten
theorem cs_tr {l : List Tr} : ∀ x ∈ l.map Tr.cs, x.length = 5 := by simp only [List.mem_map]; rintro _ ⟨a, _, rfl⟩; rfl
@[simp] theorem trsC_len {l : List Tr} : (trsC l).length = 5 * l.length := by
  unfold trsC
  rw [flatten_len (sz := 5) _ cs_tr, List.length_map, Nat.mul_comm]
theorem trsC_snoc (a : List Tr) (x : Tr) : trsC (a ++ [x]) = trsC a ++ x.cs := by simp [trsC]
theorem trsC_one (l : List Tr) : (trsC l).all AV.one = true := by
  unfold trsC
  rw [List.all_eq_true]
  intro x hx
  obtain ⟨y, hy, hx⟩ := List.mem_flatten.1 hx
  obtain ⟨a, _, rfl⟩ := List.mem_map.1 hy
  simp [Tr.cs] at hx
  rcases hx with rfl | rfl | rfl | rfl | rfl <;> rfl
theorem trsC_refs (l : List Tr) : refsL (trsC l) = [] := by
  induction l with
  | nil => rfl
  | cons a l ih => rw [show trsC (a :: l) = a.cs ++ trsC l from rfl]; simp [Tr.cs, ih]
abbrev ST (H : AH) (v : AV) (l : List Tr) : Prop := SL H 5 v (trsC l)
theorem ST.form {v : AV} {l : List Tr} (h : ST H v l) : ∃ a c s, v = .slice a l.length c s := by
  have := sle_form (es := l.map Tr.cs) h cs_tr (by omega)
  simpa using this
theorem ST.all {v : AV} {l : List Tr} (h : ST H v l) (h0 : l ≠ []) : ∃ b o c r, v = .slice (some (b, o)) l.length c 5 ∧ rowOf H b = some r ∧
    ∀ i (hi : i < l.length), o + i * 5 + 5 ≤ r.length ∧ (r.drop (o + i * 5)).take 5 = l[i].cs ∧ ∀ j, j < 5 → r[o + i * 5 + j]? = l[i].cs[j]? := by
  obtain ⟨b, o, c, r, rfl, g1, g2⟩ := sle_all (es := l.map Tr.cs) h cs_tr (by omega) (by simpa using h0)
  exact ⟨b, o, c, r, by simp, g1, fun i hi => g2 i _ (by simp [hi])⟩
theorem eqTr {p q : Tr} : eqF ap 0 [(0, 3), (1, 3), (2, 3), (3, 2), (4, 2)] [AV.int .i64 p.b, AV.int .i64 p.s, AV.int .i64 p.i, AV.int .i64 p.q, AV.int .i64 p.p] [AV.int .i64 q.b, AV.int .i64 q.s, AV.int .i64 q.i, AV.int .i64 q.q, AV.int .i64 q.p] = some (decide (p = q)) := by
  obtain ⟨_, _, _, _, _⟩ := p
  obtain ⟨_, _, _, _, _⟩ := q
  simp [eqF, eqC]
  rw [Bool.eq_iff_iff]
  simp
theorem trades_eq {v w : AV} {l m : List Tr} (ha : ST H v l) (hb : ST H w m) (hl : l.length ≤ 1000000) (hl2 : m.length ≤ 1000000) (hk : l.length + 10 < k) : callA ap k (.func 19 [] []) [v, w] 0 H = some (.bool (decide (l = m)), H) := by
  obtain ⟨k, rfl⟩ : ∃ k', k = k' + 1 := ⟨k - 1, by omega⟩
  refine Hx.eqn ?_
  rw [hx_gg fn19 rfl, b19]
  obtain ⟨x, c, s, rfl⟩ := ST.form ha
  obtain ⟨x', c', s', rfl⟩ := ST.form hb
  by_cases hn : l.length = m.length
  · simp [hn]
    refine hx_up (fun i s1 => ∃ H', s1 = ⟨sp 26 [(0, .slice x m.length c s), (1, .slice x' m.length c' s'), (5, .int .i64 i)], H', []⟩ ∧ Chg [] H H' ∧ ∀ j (h1 : j < l.length) (h2 : j < m.length), j < i → l[j] = m[j]) m.length ?_ ?_ (by omega) ⟨H, rfl, .refl, by simp⟩
    · rintro i _ hi ⟨H', rfl, c1, hq⟩
      have hw : IntKind.i64.wrap ((i : Int) + 1) = ((i + 1 : Nat) : Int) := by rw [wrap_i64 (by omega) (by omega)]; omega
      simp [hi]
      refine hx_drawn dc19_6 fun H1 c2 _ _ => ?_
      have hi' : i < l.length := hn ▸ hi
      have c3 := c1.tr c2
      obtain ⟨b0, o0, c0, r0, e0, g0, gg⟩ := ST.all (ha.keep c3) (by intro h; simp [h] at hi')
      obtain ⟨b1, o1, c1', r1, e1, g2, gg'⟩ := ST.all (hb.keep c3) (by intro h; simp [h] at hi)
      obtain ⟨ga, g1, -⟩ := gg i hi'
      obtain ⟨gb, g3, -⟩ := gg' i hi
      injection e0 with z1 z2 z3 z4
      subst z1 z3 z4
      injection e1 with z1 z2 z3 z4
      subst z1 z3 z4
      have hup : l[i] = m[i] → ∀ j (h1 : j < l.length) (h2 : j < m.length), j < i + 1 → l[j] = m[j] := fun he j h1 h2 hj => by
        rcases Nat.lt_succ_iff_lt_or_eq.1 hj with hj | rfl
        · exact hq j h1 h2 hj
        · exact he
      have hne : ¬ l[i] = m[i] → ¬ l = m := fun h e => h (by subst e; rfl)
      generalize l[i] = p at *
      generalize m[i] = q at *
      simp only [Tr.cs] at g1 g3
      by_cases he : p = q
      · subst he
        simp [d19_6, hi, g0, g1, g2, g3, ga, gb, hw, eqV, eqTr]
        exact ⟨H1, rfl, c3, hup rfl⟩
      · simp [d19_6, hi, g0, g1, g2, g3, ga, gb, hw, hne he, eqV, eqTr, he, gcF_flat, c3]
    · rintro _ ⟨H', rfl, c1, hq⟩
      have he : l = m := List.ext_getElem hn fun j h1 h2 => hq j h1 h2 h2
      simp [he, gcF_flat, c1]
  · have hne : ¬ l = m := fun e => hn (by rw [e])
    have hn' : ¬ (l.length : Int) = (m.length : Int) := by omega
    simp [hn', hne]
end
end Go.Proofs.Ytjpmddjibeecbaa.T.Qu
end
section
/-! Is there an order of a kind; do any cross? -/
set_option linter.unusedVariables false
set_option linter.unusedSimpArgs false
set_option maxHeartbeats 4000000
set_option maxRecDepth 100000
namespace Go.Proofs.Ytjpmddjibeecbaa.T.Qu
open Go Go.Ab
section
variable {k : Nat} {H : AH}
/-- Where the first one is. -/
def idxF (P : Od → Bool) (l : List Od) : Int := match l.findIdx? P with
  | some i => i
  | none => -1
theorem indexFunc_ok {v g : AV} {l : List Od} {P : Od → Bool} (h : SO H v l) (hx : extOf ap g = none) (hl : l.length ≤ 1000000) (hg : ∀ H' x, Chg [] H H' → callA ap k g [.agg (Od.cs x)] 0 H' = some (.bool (P x), H')) (hk : l.length + 10 < k) :
    callA ap (k + 1) (.func 39 [] []) [v, g] 0 H = some (.int .i64 (idxF P l), H) := by
  refine Hx.eqn ?_
  rw [hx_gg fn39 rfl, b39]
  obtain ⟨a, c, s, rfl⟩ := h.form
  simp
  refine hx_up (fun i st => ∃ H', st = ⟨sp 19 [(0, .slice a l.length c s), (1, g), (7, .int .i64 l.length), (8, .int .i64 i)], H', []⟩ ∧ Chg [] H H' ∧ ∀ j (hj : j < l.length), j < i → P l[j] = false) l.length ?_ ?_ (by omega) ⟨H, by simp [maskS], .refl, by simp⟩
  · rintro i st hi ⟨H2, rfl, c2, ho⟩
    have hi' : (i : Int) < l.length := by omega
    have w : IntKind.i64.wrap ((i : Int) + 1) = (i : Int) + 1 := wrap_i64 (by omega) (by omega)
    obtain ⟨b, o, c', r, e, g0, gg⟩ := SO.all (h.keep c2) (by intro h; simp [h] at hi)
    cases e
    obtain ⟨g1, g2, -⟩ := gg i hi
    obtain ⟨x, hxx⟩ : ∃ x, x = l[i] := ⟨_, rfl⟩
    rw [← hxx] at g2
    have hgx := hg H2 x c2
    have hlx : l[i]? = some x := by rw [hxx]; exact List.getElem?_eq_getElem hi
    simp only [Od.cs] at g2 hgx
    cases hp : P x with
    | true =>
      have hid : idxF P l = (i : Int) := by
        have : l.findIdx? P = some i := by
          rw [List.findIdx?_eq_some_iff_getElem]
          exact ⟨hi, by rw [← hxx]; exact hp, fun j hj => by simp [ho j (by omega) hj]⟩
        simp [idxF, this]
      rw [hp] at hgx
      simp [hi', hi, g0, g1, g2, hx, hgx, hid, gcF_flat, c2]
    | false =>
      rw [hp] at hgx
      simp [hi', hi, g0, g1, g2, hx, hgx, maskS, w]
      refine ⟨c2, fun j hj hji => ?_⟩
      by_cases hjj : j = i
      · subst hjj; rw [← hxx]; exact hp
      · exact ho j hj (by omega)
  · rintro st ⟨H2, rfl, c2, ho⟩
    have hid : idxF P l = -1 := by
      have : l.findIdx? P = none := by
        rw [List.findIdx?_eq_none_iff]
        intro x hx
        obtain ⟨j, hj, rfl⟩ := List.getElem_of_mem hx
        exact ho j hj hj
      simp [idxF, this]
    simp [hid, gcF_flat, c2]
theorem idxF_any {P : Od → Bool} {l : List Od} : decide (0 ≤ idxF P l) = l.any P := by
  unfold idxF
  cases h : l.findIdx? P with
  | none =>
    rw [List.findIdx?_eq_none_iff] at h
    have : l.any P = false := by
      rw [List.any_eq_false]
      intro x hx
      simp [h x hx]
    simp [this]
  | some i =>
    rw [List.findIdx?_eq_some_iff_getElem] at h
    obtain ⟨h1, h2, h3⟩ := h
    have : l.any P = true := List.any_eq_true.2 ⟨l[i], List.getElem_mem h1, h2⟩
    simp [this]
theorem containsFunc_ok {v g : AV} {l : List Od} {P : Od → Bool} (h : SO H v l) (hx : extOf ap g = none) (hl : l.length ≤ 1000000) (hg : ∀ H' x, Chg [] H H' → callA ap k g [.agg (Od.cs x)] 0 H' = some (.bool (P x), H')) (hk : l.length + 10 < k) :
    callA ap (k + 2) (.func 31 [] []) [v, g] 0 H = some (.bool (l.any P), H) := by
  refine Hx.eqn ?_
  rw [hx_gg fn31 rfl, b31]
  have key := indexFunc_ok h hx hl hg hk
  obtain ⟨a, c, s, rfl⟩ := h.form
  rw [← idxF_any]
  simp [key]
theorem crossed1_ok {b : Od} {a : Od} {c : Nat} (hc : rowOf H c = some a.cs) : callA ap (k + 4) (.func 32 [] [.ptr (some (c, 0))]) [.agg b.cs] 0 H = some (.bool (crossB a b), H) := by
  refine Hx.eqn ?_
  rw [hx_gg fn32 rfl, b32]
  have hc' : ∀ X, rowOf (H ++ X) c = some a.cs := fun X => (Chg.app (F := []) H X).row hc (by simp)
  have hk := fun (H : AH) => @cross_ok k H a b
  simp only [Od.cs] at hc' hk
  simp [Od.cs, hc', hk]
def dropTake (l : List Od) (i : Nat) : List Od := l.take i
theorem so_take {v : AV} {l : List Od} (h : SO H v l) {i : Nat} (hi : i ≤ l.length) : ∃ v', aslice H 6 v none (some (.int .i64 i)) none = some v' ∧ SO H v' (l.take i) := by
  obtain ⟨v', h1, h2, -, -⟩ := h.cut (low := none) (high := some (.int .i64 (i : Int))) (by omega) (lo := 0) (hi := i) (by omega) (by rw [odsC_len]; omega) rfl (fun _ _ => rfl)
  rw [Nat.zero_mul, List.drop_zero] at h2
  refine ⟨v', h1, ?_⟩
  have : (odsC l).take (i * 6) = odsC (l.take i) := by
    conv => lhs; rw [← List.take_append_drop i l, odsC_app]
    rw [List.take_left' (by rw [odsC_len, List.length_take]; omega)]
  rw [this] at h2
  exact h2
/-- Does one of the first i cross the one at i? -/
def crossAt (l : List Od) (i : Nat) : Bool := (l.take i).any (crossB (l.getD i dO))
def crossN (l : List Od) : Nat → Bool
  | 0 => false
  | n + 1 => crossN l n || crossAt l n
def crossedB (l : List Od) : Bool := rightL l && crossN l l.length
theorem crossN_up {l : List Od} {i : Nat} (h : crossN l i = true) : ∀ n, i ≤ n → crossN l n = true
  | n, hn => by
    obtain ⟨d, rfl⟩ : ∃ d, n = i + d := ⟨n - i, by omega⟩
    clear hn
    induction d with
    | zero => exact h
    | succ d ih => rw [← Nat.add_assoc, crossN, ih]; rfl
theorem crossed_ok {v : AV} {l : List Od} (h : SO H v l) (hl : l.length ≤ 1000000) (hk : l.length + 30 < k) : callA ap k (.func 16 [] []) [v] 0 H = some (.bool (crossedB l), H) := by
  obtain ⟨k, rfl⟩ : ∃ k', k = k' + 7 := ⟨k - 7, by omega⟩
  refine Hx.eqn ?_
  rw [hx_gg fn16 rfl, b16]
  have hr := right_ok (k := k + 6) h hl (by omega)
  obtain ⟨a, c, s, rfl⟩ := h.form
  cases hrr : rightL l with
  | false => simp [hr, hrr, crossedB]
  | true =>
    simp [hr, hrr]
    refine hx_up (fun i st => ∃ H', st = ⟨sp 21 [(0, .slice a l.length c s), (8, .slice a l.length c s), (9, .int .i64 l.length), (10, .int .i64 i)], H', []⟩ ∧ Chg [] H H' ∧ crossN l i = false) l.length ?_ ?_ (by omega) ⟨H, by simp [maskS], .refl, rfl⟩
    · rintro i st hi ⟨H2, rfl, c2, ho⟩
      have hi' : (i : Int) < l.length := by omega
      have w : IntKind.i64.wrap ((i : Int) + 1) = (i : Int) + 1 := wrap_i64 (by omega) (by omega)
      obtain ⟨b, o, c', r, e, g0, gg⟩ := SO.all (h.keep c2) (by intro h; simp [h] at hi)
      cases e
      obtain ⟨g1, g2, -⟩ := gg i hi
      obtain ⟨x, hxx⟩ : ∃ x, x = l[i] := ⟨_, rfl⟩
      rw [← hxx] at g2
      obtain ⟨G, eG⟩ : ∃ G, G = H2 ++ [.cells x.cs .rw] := ⟨_, rfl⟩
      have cG : Chg [] H2 G := by rw [eG]; exact .app _ _
      have rG : rowOf G H2.length = some x.cs := by rw [eG]; simp [Od.cs]
      obtain ⟨v', hv1, hv2⟩ := so_take (h.keep (c2.tr cG)) (i := i) (by omega)
      have key := containsFunc_ok (k := k + 4) hv2 (g := .func 32 [] [.ptr (some (H2.length, 0))]) (by simp) (by rw [List.length_take]; omega) (P := crossB x) (fun H' y c => crossed1_ok (c.row rG (by simp))) (by rw [List.length_take]; omega)
      have hca : (l.take i).any (crossB x) = crossAt l i := by rw [crossAt, getd hi, ← hxx]
      rw [hca] at key
      obtain ⟨a', n', c'', s', rfl, -⟩ := SL.form hv2
      simp only [Od.cs] at eG g2
      simp [hi', hi, g0, g1, g2]
      rw [← eG]
      cases hq : crossAt l i with
      | true =>
        have hyes : crossN l l.length = true := crossN_up (i := i + 1) (by rw [crossN, hq, Bool.or_true]) _ hi
        rw [hq] at key
        simp [hv1, key, crossedB, hrr, hyes, gcF_flat, c2.tr cG]
      | false =>
        rw [hq] at key
        simp [hv1, key, maskS, w]
        exact ⟨c2.tr cG, by rw [crossN, ho, hq]; rfl⟩
    · rintro st ⟨H2, rfl, c2, ho⟩
      simp [crossedB, ho, hrr, gcF_flat, c2]
end
end Go.Proofs.Ytjpmddjibeecbaa.T.Qu
end
section
/-! The order in which orders are met: the program's. -/
set_option linter.unusedVariables false
set_option linter.unusedSimpArgs false
set_option maxHeartbeats 4000000
set_option maxRecDepth 100000
namespace Go.Proofs.Ytjpmddjibeecbaa.T.Qu
open Go Go.Ab
def betterB (a b : Od) : Bool := if a.side = 1 then decide (b.p < a.p) else decide (a.p < b.p)
/-- Behind which of the first j it stands. -/
def atP (own : List Od) (o : Od) : Nat → Nat
  | 0 => 0
  | j + 1 => if betterB o (own.getD j dO) = true then atP own o j else j + 1
theorem atP_le (own : List Od) (o : Od) : ∀ j, atP own o j ≤ j
  | 0 => Nat.le_refl _
  | j + 1 => by
    rw [atP]
    split
    · exact Nat.le_succ_of_le (atP_le own o j)
    · exact Nat.le_refl _
def insP (own : List Od) (o : Od) : List Od := own.take (atP own o own.length) ++ o :: own.drop (atP own o own.length)
@[simp] theorem insP_len (own : List Od) (o : Od) : (insP own o).length = own.length + 1 := by
  have := atP_le own o own.length
  simp [insP]
  omega
def walkN (l : List Od) (inst side : Int) : Nat → List Od
  | 0 => []
  | n + 1 => if (l.getD n dO).inst = inst ∧ (l.getD n dO).side = side then insP (walkN l inst side n) (l.getD n dO) else walkN l inst side n
theorem walkN_len (l : List Od) (inst side : Int) : ∀ n, (walkN l inst side n).length ≤ n
  | 0 => Nat.le_refl _
  | n + 1 => by
    have := walkN_len l inst side n
    rw [walkN]
    split
    · simp; omega
    · omega
def walkB (l : List Od) (inst side : Int) : List Od := if rightL l = true then walkN l inst side l.length else []
section
variable {k : Nat} {H : AH}
theorem better_u {id acc inst side q p id' acc' inst' side' q' p' : Int} : callA ap (k + 1) (.func 36 [] []) [.agg [.int .i64 id, .int .i64 acc, .int .i64 inst, .int .i64 side, .int .i64 q, .int .i64 p], .agg [.int .i64 id', .int .i64 acc', .int .i64 inst', .int .i64 side', .int .i64 q', .int .i64 p']] 0 H =
    some (.bool (betterB ⟨id, acc, inst, side, q, p⟩ ⟨id', acc', inst', side', q', p'⟩), H) := by
  refine Hx.eqn ?_
  rw [hx_gg fn36 rfl, b36]
  by_cases h : side = 1
  · subst h; simp [betterB]
  · simp [betterB, h]
/-- A row of one's own, grown by slices.Insert. -/
def OwnS (H : AH) (w : AV) (l : List Od) : Prop := (∃ c s, w = .slice none 0 c s ∧ l = []) ∨ ∃ b, w = .slice (some (b, 0)) l.length none 6 ∧ H[b]? = some (.cells (odsC l) .rw)
theorem OwnS.so {w : AV} {l : List Od} (h : OwnS H w l) : SO H w l := by
  rcases h with ⟨c, s, rfl, rfl⟩ | ⟨b, rfl, h⟩
  · exact .nil _ _
  · exact SL.mk (by omega) (rowOf_rw h) (by simp; omega) (by simp)
theorem OwnS.chg {F : List Nat} {H' : AH} {w : AV} {l : List Od} (h : OwnS H w l) (c : Chg F H H') (hF : ∀ i ∈ blk w, i ∉ F) : OwnS H' w l := by
  rcases h with h | ⟨b, rfl, h⟩
  · exact .inl h
  · exact .inr ⟨b, rfl, c.get h (hF b (by simp))⟩
theorem odsC_take (l : List Od) (i : Nat) : (odsC l).take (i * 6) = odsC (l.take i) := by
  by_cases hi : i ≤ l.length
  · conv => lhs; rw [← List.take_append_drop i l, odsC_app]
    rw [List.take_left' (by rw [odsC_len, List.length_take]; omega)]
  · rw [List.take_of_length_le (by rw [odsC_len]; omega), List.take_of_length_le (by omega)]
theorem odsC_drop (l : List Od) (i : Nat) : (odsC l).drop (i * 6) = odsC (l.drop i) := by
  by_cases hi : i ≤ l.length
  · conv => lhs; rw [← List.take_append_drop i l, odsC_app]
    rw [List.drop_left' (by rw [odsC_len, List.length_take]; omega)]
  · rw [List.drop_eq_nil_of_le (by rw [odsC_len]; omega), List.drop_eq_nil_of_le (by omega)]
    rfl
theorem call_ins {args : List AV} {lo : Nat} : callA ap (k + 1) (.func 37 [] []) args lo H = insX 6 args lo H := by
  have hp : ap.prim 37 = some (insX 6) := rfl
  simp only [callA, hp, List.nil_append, List.append_nil]
theorem insert_ok {w : AV} {own : List Od} {bv i : Nat} {o : Od} (h : OwnS H w own) (hv : H[bv]? = some (.cells o.cs .pl)) (hi : i ≤ own.length) (hl : own.length ≤ 1000000) (hb : bv ∉ blk w) :
    ∃ w' H', callA ap (k + 1) (.func 37 [] []) [w, .int .i64 i, .slice (some (bv, 0)) 1 (some 1) 6] 0 H = some (w', H') ∧ OwnS H' w' (own.take i ++ o :: own.drop i) ∧ Chg (blk w) H H' ∧ (∀ b ∈ blk w', H.length ≤ b) := by
  rw [call_ins]
  unfold insX
  simp only [hv]
  rw [if_pos (by simp [Od.cs])]
  rcases h with ⟨c, s, rfl, rfl⟩ | ⟨b, rfl, h⟩
  · have : i = 0 := by simpa using hi
    subst this
    refine ⟨.slice (some (H.length, 0)) 1 none 6, H ++ [.cells o.cs .rw], ?_, .inr ⟨H.length, by simp, by simp [odsC]⟩, .app _ _, by simp⟩
    simp
  · have hbv : bv ≠ b := fun e => hb (by simp [e])
    simp only [h]
    rw [if_pos ⟨⟨trivial, by omega, by simpa using hi, by simp; omega⟩, by
      rw [List.take_of_length_le (by simp; omega)]; exact odsC_one own, odsC_refs own, hl, hbv⟩]
    have hlt := lt_of_get h
    refine ⟨_, _, rfl, .inr ⟨H.length, ?_, ?_⟩, ?_, by simp⟩
    · have : (own.take i ++ o :: own.drop i).length = own.length + 1 := by simp; omega
      rw [this]
    · rw [List.getElem?_append_right (by simp)]
      have e1 : newR 6 own.length i (odsC own) o.cs = odsC (own.take i ++ o :: own.drop i) := by
        rw [newR, odsC_take, List.take_of_length_le (by simp; omega : (odsC own).length ≤ own.length * 6), odsC_drop, odsC_app, List.append_assoc]
        rfl
      simp [e1]
    · exact ((Chg.set H b _).trans (.app (F := []) _ _) (by simp)).mono (by simp)
theorem walk_ok {v : AV} {l : List Od} {inst side : Int} (h : SO H v l) (hl : l.length ≤ 1000000) (hk : l.length + 30 < k) :
    Hx (callA ap k (.func 27 [] []) [v, .int .i64 inst, .int .i64 side] 0 H) fun r => ∃ c w, r.1 = .func 38 [] [.ptr (some (c, 0))] ∧ Chg [] H r.2 ∧ H.length ≤ c ∧ r.2[c]? = some (.cells [w] .rw) ∧ OwnS r.2 w (walkB l inst side) ∧ ∀ i ∈ blk w, H.length ≤ i := by
  obtain ⟨k, rfl⟩ : ∃ k', k = k' + 7 := ⟨k - 7, by omega⟩
  rw [hx_go fn27 rfl, b27]
  obtain ⟨a, c, s, rfl⟩ := h.form
  simp
  obtain ⟨G, eG⟩ : ∃ G, G = H ++ [.cells [.slice none 0 (some 0) 0] .rw] := ⟨_, rfl⟩
  have cG : Chg [] H G := by rw [eG]; exact .app _ _
  have gG : G[H.length]? = some (.cells [.slice none 0 (some 0) 0] .rw) := by rw [eG]; simp
  have hr := right_ok (k := k + 6) (h.keep cG) hl (by omega)
  rw [← eG]
  cases hrr : rightL l with
  | false =>
    simp [hr, hrr, walkB]
    exact ⟨cG, _, gG, .inl ⟨_, _, rfl, rfl⟩, by simp⟩
  | true =>
    simp [hr, hrr]
    refine hx_up (fun i st => ∃ H' w, st = ⟨sp 51 [(1, .int .i64 inst), (2, .int .i64 side), (7, .ptr (some (H.length, 0))), (13, .slice a l.length c s), (14, .int .i64 l.length), (15, .int .i64 i)], H', []⟩ ∧ Chg [] H H' ∧ H'[H.length]? = some (.cells [w] .rw) ∧ OwnS H' w (walkN l inst side i) ∧ ∀ b ∈ blk w, H.length < b) l.length ?_ ?_ (by omega) ⟨G, _, by simp [maskS], cG, gG, .inl ⟨_, _, rfl, rfl⟩, by simp⟩
    · rintro i st hi ⟨H2, w, rfl, c2, gw, ho, hb⟩
      have hi' : (i : Int) < l.length := by omega
      have wi : IntKind.i64.wrap ((i : Int) + 1) = (i : Int) + 1 := wrap_i64 (by omega) (by omega)
      obtain ⟨b, o, c', r, e, g0, gg⟩ := SO.all (h.keep c2) (by intro h; simp [h] at hi)
      cases e
      obtain ⟨g1, g2, -⟩ := gg i hi
      obtain ⟨x, hxx⟩ : ∃ x, x = l[i] := ⟨_, rfl⟩
      rw [← hxx] at g2
      have hgd : l.getD i dO = x := by rw [getd hi, hxx]
      obtain ⟨G2, eG2⟩ : ∃ G2, G2 = H2 ++ [.cells x.cs .rw] := ⟨_, rfl⟩
      have cG2 : Chg [] H2 G2 := by rw [eG2]; exact .app _ _
      have rG2 : rowOf G2 H2.length = some x.cs := by rw [eG2]; simp [Od.cs]
      have gw2 : G2[H.length]? = some (.cells [w] .rw) := cG2.get gw (by simp)
      have ho2 := ho.chg cG2 (by simp)
      have hlw := walkN_len l inst side i
      simp only [Od.cs] at eG2 g2 rG2
      simp [hi', hi, g0, g1, g2]
      rw [← eG2]
      by_cases hs : x.inst = inst ∧ x.side = side
      · obtain ⟨hs1, hs2⟩ := hs
        obtain ⟨own, eo⟩ : ∃ own, own = walkN l inst side i := ⟨_, rfl⟩
        rw [← eo] at ho ho2 hlw
        obtain ⟨aw, cw, sw, ew⟩ := ho2.so.form
        have rw2 : rowOf G2 H.length = some [w] := rowOf_rw gw2
        have hi0 : G2[H2.length]? = some (.cells [.int .i64 x.id, .int .i64 x.acc, .int .i64 x.inst, .int .i64 x.side, .int .i64 x.q, .int .i64 x.p] .rw) := by rw [eG2]; simp
        rw [ew] at rw2
        simp [rG2, hs1, hs2, rw2]
        refine hx_down (fun j st => j ≤ own.length ∧ ∃ H', st = ⟨sp 51 [(1, .int .i64 inst), (2, .int .i64 side), (7, .ptr (some (H.length, 0))), (9, .ptr (some (H2.length, 0))), (10, .int .i64 (j : Nat)), (13, .slice (some (b, o)) l.length c 6), (14, .int .i64 l.length), (15, .int .i64 i)], H', []⟩ ∧ Chg [] G2 H' ∧ atP own x own.length = atP own x j) (j := own.length) ?_ (by omega) ⟨Nat.le_refl _, G2, by simp [maskS], .refl, rfl⟩
        rintro j st ⟨hj, H3, rfl, c3, hat⟩
        simp
        refine hx_drawn dc27_8 fun H4 c4 _ _ => ?_
        have c5 := c3.tr c4
        have rw4 := c5.row rw2 (by simp)
        have rx4 := c5.row rG2 (by simp)
        have ho4 := ho2.chg c5 (by simp)
        obtain ⟨H5, e5⟩ : ∃ H5, H5 = H4 ++ [.cells [.int .i64 x.id, .int .i64 x.acc, .int .i64 x.inst, .int .i64 x.side, .int .i64 x.q, .int .i64 x.p] .pl] := ⟨_, rfl⟩
        have c45 : Chg [] H4 H5 := by rw [e5]; exact .app _ _
        have tail : atP own x own.length = j → ∃ w' H6, callA ap (k + 6) (.func 37 [] []) [.slice aw own.length cw sw, .int .i64 j, .slice (some (H4.length, 0)) 1 (some 1) 6] 0 H5 = some (w', H6) ∧ H6[H.length]? = some (.cells [.slice aw own.length cw sw] .rw) ∧
            Chg [] H (H6.set H.length (.cells [w'] .rw)) ∧ (H6.set H.length (.cells [w'] .rw))[H.length]? = some (.cells [w'] .rw) ∧ OwnS (H6.set H.length (.cells [w'] .rw)) w' (walkN l inst side (i + 1)) ∧ ∀ b ∈ blk w', H.length < b := by
          intro hj2
          have hbw : ∀ b ∈ blk w, b < H4.length := fun b hb => by
            rcases ho4 with ⟨_, _, rfl, -⟩ | ⟨b', rfl, h4⟩
            · simp at hb
            · simp at hb; subst hb; exact lt_of_get h4
          obtain ⟨w', H6, t1, t2, t3, t4⟩ := insert_ok (k := k + 5) (H := H5) (w := w) (own := own) (bv := H4.length) (i := j) (o := x) (ho4.chg c45 (by simp)) (by rw [e5]; simp [Od.cs]) hj (by omega) (fun h => Nat.lt_irrefl _ (hbw _ h))
          have cc : Chg [] H H6 := ((c2.tr cG2).tr (c5.tr c45)).trans t3 fun b h => .inr (Nat.le_of_lt (hb b h))
          have hH4 : H.length < H4.length := by
            have := (c2.tr cG2).1
            have := c5.1
            have := lt_of_get gw2
            omega
          have hH5 : H.length < H5.length := by have := c45.1; omega
          have hw' : ∀ b ∈ blk w', H.length < b := fun b h => Nat.lt_of_lt_of_le hH5 (t4 b h)
          have hg6 : H6[H.length]? = some (.cells [w] .rw) := t3.get ((c5.tr c45).get gw2 (by simp)) (fun h => Nat.lt_irrefl _ (hb _ h))
          have hl6 := lt_of_get hg6
          have hWN : walkN l inst side (i + 1) = own.take j ++ x :: own.drop j := by
            rw [walkN, hgd, if_pos ⟨hs1, hs2⟩, insP, ← eo, hj2]
          refine ⟨w', H6, ew ▸ t1, ew ▸ hg6, cc.set_new (Nat.le_refl _) _, by simp [hl6], ?_, hw'⟩
          rw [hWN]
          exact t2.chg (Chg.set _ _ _) (fun b h => by have := hw' b h; simp; omega)
        cases j with
        | zero =>
          obtain ⟨w', H6, t1, t3, t4, t5, t6, t7⟩ := tail hat
          obtain ⟨a', b', c', ew'⟩ := t6.so.form
          rw [show ((0 : Nat) : Int) = 0 from rfl] at t1
          rw [ew'] at t1 t4 t5 t6 t7
          have t3' : rowRw H6 0 H.length = some [.slice aw own.length cw sw] := by simp [rowRw, t3]
          simp [d27_8, rw4, rx4]
          rw [← e5]
          simp [t1, t3', maskS, wi]
          exact ⟨t4, _, t5, t6, t7⟩
        | succ j =>
          obtain ⟨b1, o1, c1, r1, e1, f0, ff⟩ := SO.all ho4.so (by intro h; simp [h] at hj)
          have hjl : j < own.length := by omega
          obtain ⟨f1, f2, -⟩ := ff j hjl
          obtain ⟨y, hy⟩ : ∃ y, y = own[j] := ⟨_, rfl⟩
          have hgy : own.getD j dO = y := by rw [getd hjl, hy]
          rw [← hy] at f2
          have hjj : (j : Int) < own.length := by omega
          have wj : IntKind.i64.wrap (j : Int) = (j : Int) := wrap_i64 (by omega) (by omega)
          have wj1 : IntKind.i64.wrap ((j : Int) + 1 - 1) = (j : Int) := by rw [wrap_i64 (by omega) (by omega)]; omega
          simp only [Od.cs] at f2
          rw [ew] at e1
          injection e1 with z1 z2 z3 z4
          subst z1 z3 z4
          cases hbt : betterB x y with
          | true =>
            have hbt' : betterB ⟨x.id, x.acc, x.inst, x.side, x.q, x.p⟩ ⟨y.id, y.acc, y.inst, y.side, y.q, y.p⟩ = true := hbt
            simp [d27_8, rw4, rx4, wj, wj1, hjj, f0, f1, f2, better_u, hbt']
            exact ⟨j, by omega, by omega, H4, by simp [maskS], c5, by rw [hat, atP, hgy, if_pos hbt]⟩
          | false =>
            have hbt' : betterB ⟨x.id, x.acc, x.inst, x.side, x.q, x.p⟩ ⟨y.id, y.acc, y.inst, y.side, y.q, y.p⟩ = false := hbt
            simp [d27_8, rw4, rx4, wj, wj1, hjj, f0, f1, f2, better_u, hbt']
            obtain ⟨w', H6, t1, t3, t4, t5, t6, t7⟩ := tail (by rw [hat, atP, hgy, hbt]; rfl)
            obtain ⟨a', b', c', ew'⟩ := t6.so.form
            rw [show ((j + 1 : Nat) : Int) = (j : Int) + 1 from rfl] at t1
            rw [ew'] at t1 t4 t5 t6 t7
            have t3' : rowRw H6 0 H.length = some [.slice (some (b1, o1)) own.length cw 6] := by simp [rowRw, t3]
            rw [← e5]
            simp [t1, t3', maskS, wi]
            exact ⟨t4, _, t5, t6, t7⟩
      · have hN : walkN l inst side (i + 1) = walkN l inst side i := by rw [walkN, hgd, if_neg hs]
        have hgo : (if x.inst = inst then decide ¬ x.side = side else true) = true := by
          by_cases h1 : x.inst = inst
          · have : ¬ x.side = side := fun h => hs ⟨h1, h⟩
            simp [h1, this]
          · simp [h1]
        by_cases h1 : x.inst = inst
        · have h2 : ¬ x.side = side := fun h => hs ⟨h1, h⟩
          simp [rG2, h1, h2, maskS, wi]
          exact ⟨c2.tr cG2, w, gw2, hN ▸ ho2, hb⟩
        · simp [rG2, h1, maskS, wi]
          exact ⟨c2.tr cG2, w, gw2, hN ▸ ho2, hb⟩
    · rintro st ⟨H2, w, rfl, c2, gw, ho, hb⟩
      simp [walkB, hrr]
      exact ⟨c2, w, gw, ho, fun b h => Nat.le_of_lt (hb b h)⟩
end
end Go.Proofs.Ytjpmddjibeecbaa.T.Qu
end
section
/-! Ranges whose rounds turn rows of their own; the function that goes through orders. -/
set_option linter.unusedVariables false
set_option linter.unusedSimpArgs false
set_option maxHeartbeats 4000000
set_option maxRecDepth 100000
namespace Go.Proofs.Ytjpmddjibeecbaa.T.Qu
open Go Go.Ab
def asF (P : List AV → AH → Prop) (H : AH) (r : Ex × St) : Prop := r.1 = .normal ∧ Chg [] H r.2.H ∧ P r.2.env r.2.H
@[simp] theorem asF_normal {P : List AV → AH → Prop} {H H' : AH} {env : List AV} {ms : List Nat} : asF P H (.normal, ⟨env, H', ms⟩) = (Chg [] H H' ∧ P env H') := propext ⟨fun h => h.2, fun h => ⟨rfl, h⟩⟩
@[congr] theorem asF_congr {P : List AV → AH → Prop} {H : AH} {q q' : Ex × St} (h : tag q = q') : asF P H q = asF P H q' := by cases h; rfl
/-- As hx_range; what is handed over may be boxed. -/
theorem hx_rangeG {ap : AP} {k k' n : Nat} {s : St} {g : Operand} {ps : Array Tmp} {aq bd : AC} {Q : Ex × St → Prop} (A : Nat → AH → List AV → Prop) (Inv : AH → Prop) (I : Nat → AH → Prop) (E : Ex → AH → Prop)
    (hf : isFunc (opd s.env g) = true)
    (hg : Goes ap (k + 1) n (opd s.env g) A Inv (s.H ++ [.deferred false] ++ [.loop .ready none s.env ps aq bd s.H.length]) (s.H.length + 1))
    (hI : ∀ j H H', I j H → Chg [] H H' ∨ LS (s.H.length + 1) H H' → I j H') (hE : ∀ x H H', E x H → Chg [] H H' ∨ LS (s.H.length + 1) H H' → E x H')
    (hInv : ∀ j H, I j H → Inv H)
    (hn : ∀ j H a, A j H a → a.length = ps.size)
    (h0 : I 0 s.H)
    (hb : ∀ j, j < n → ∀ H a, I j H → A j H a → isLoop H[s.H.length + 1]? → H[s.H.length]? = some (.deferred false) →
      Hx (evCode ap (callA ap k) 0 (some (s.H.length + 1)) k aq ⟨setL s.env (ps.toList.zip a), H, []⟩) (asF (fun env H2 => ∀ H1, LS (s.H.length + 1) H2 H1 → isLoop H1[s.H.length + 1]? → H1[s.H.length]? = some (.deferred false) → I j H1 → ∀ ms, Hx (evCode ap (callA ap k) 0 (some (s.H.length + 1)) k bd ⟨env, H1, ms⟩) (stepOut (I (j + 1)) E (s.H.length + 1) s.H.length H1)) H))
    (hq : ∀ H, I n H → H[s.H.length]? = some (.deferred false) → Q (.normal, ⟨s.env, H, s.H.length :: s.marks⟩))
    (hqe : ∀ x H, x ≠ .normal → E x H → H[s.H.length]? = some (.deferred false) → Q (x, ⟨s.env, H, s.H.length :: s.marks⟩)) :
    Hx (evCode ap (callA ap (k + 2)) 0 none k' (.range g ps aq bd) s) Q := by
  have hl0 : (s.H ++ [AB.deferred false] ++ [.loop .ready none s.env ps aq bd s.H.length])[s.H.length + 1]? = some (.loop .ready none s.env ps aq bd s.H.length) := by simp
  have hd0 : (s.H ++ [AB.deferred false] ++ [.loop .ready none s.env ps aq bd s.H.length])[s.H.length]? = some (.deferred false) := by simp
  have key := hg (fun j H => I j H ∧ H[s.H.length + 1]? = some (.loop .ready none s.env ps aq bd s.H.length) ∧ H[s.H.length]? = some (.deferred false))
    (fun H => ∃ x c, jumpOf x = some c ∧ E x H ∧ H[s.H.length + 1]? = some (.loop .done (some c) s.env ps aq bd s.H.length) ∧ H[s.H.length]? = some (.deferred false))
    (fun j H H' ⟨h1, h2, h3⟩ c => ⟨hI j H H' h1 (.inl c), c.get h2 (by simp), c.get h3 (by simp)⟩)
    (fun H H' ⟨x, c', h1, h2, h3, h4⟩ c => ⟨x, c', h1, hE x H H' h2 (.inl c), c.get h3 (by simp), c.get h4 (by simp)⟩) (fun j H ⟨h, _⟩ => hInv j H h)
    (fun j hj H a ⟨h1, h2, h3⟩ ha => by
      have hlt := lt_of_get h2
      have hbb := hb j hj H a h1 ha (by rw [h2]; trivial) h3
      obtain ⟨r, e1, e2, e3, e4⟩ := hbb.ex
      have h2' := e3.get h2 (by simp)
      have h3' := e3.get h3 (by simp)
      have hlt' := lt_of_get h2'
      obtain ⟨H1, hH1⟩ : ∃ H1, H1 = r.2.H.set (s.H.length + 1) (.loop .busy none s.env ps aq bd s.H.length) := ⟨_, rfl⟩
      have hls : LS (s.H.length + 1) r.2.H H1 := ⟨by rw [hH1]; exact Chg.set _ _ _, by rw [h2']; trivial⟩
      have g2 : H1[s.H.length + 1]? = some (.loop .busy none s.env ps aq bd s.H.length) := by rw [hH1, List.getElem?_set_self hlt']
      have g3 : H1[s.H.length]? = some (.deferred false) := by rw [hH1, List.getElem?_set_ne (by omega)]; exact h3'
      obtain ⟨q, f1, f2, f3, f4⟩ := (e4 H1 hls (by rw [g2]; trivial) g3 (hI _ _ _ (hI _ _ _ h1 (.inl e3)) (.inr hls)) r.2.marks).ex
      simp only [callA]
      unfold roundA
      rw [h2]
      simp only
      rw [if_neg (by simp [hn j H a ha]), e1]
      simp only [Option.bind_some]
      rw [e2, h2']
      simp only
      rw [← hH1, f1]
      simp only [Option.bind_some]
      rw [f2, g2]
      simp only
      have hlt2 := lt_of_get (f2.trans g2)
      refine Hx.som ?_
      obtain ⟨x, sq⟩ := q
      have hls2 : ∀ st pe, LS (s.H.length + 1) sq.H (sq.H.set (s.H.length + 1) (.loop st pe s.env ps aq bd s.H.length)) := fun st pe => ⟨Chg.set _ _ _, by rw [f2, g2]; trivial⟩
      have gd : ∀ A, (sq.H.set (s.H.length + 1) A)[s.H.length]? = some (.deferred false) := fun A => by rw [List.getElem?_set_ne (by omega)]; exact f3.trans g3
      cases hx : jumpOf x with
      | none =>
        cases x with
        | normal => exact .inl ⟨by simp, hI _ _ _ f4 (.inr (hls2 _ _)), List.getElem?_set_self hlt2, gd _⟩
        | exit i => cases hx
        | ret => cases hx
      | some c =>
        have f4' : E x sq.H := by
          cases x with
          | normal => cases hx
          | exit i => exact f4
          | ret => exact f4
        exact .inr ⟨by simp, x, c, hx, hE _ _ _ f4' (.inr (hls2 _ _)), List.getElem?_set_self hlt2, gd _⟩)
    ⟨hI _ _ _ h0 (.inl ((Chg.app _ _).tr (.app _ _))), hl0, hd0⟩
  obtain ⟨r, e, hr⟩ := key.ex
  simp only [evCode, hf]
  simp only [enterA, Option.bind_some, Bool.true_eq_false, if_false]
  have e' : callA ap (k + 2) (opd s.env g) [.yield (s.H ++ [AB.deferred false]).length] 0 (s.H ++ [AB.deferred false] ++ [.loop .ready none s.env ps aq bd s.H.length]) = some r := by
    rw [List.length_append]
    exact e
  rw [e']
  simp only [Option.bind_some, List.length_append, List.length_cons, List.length_nil, Nat.zero_add]
  unfold leaveA
  rcases hr with ⟨h1, h2, h3⟩ | ⟨x, c, h1, h2, h3, h4⟩
  · rw [h2]
    simp only
    rw [if_neg (by simp)]
    refine Hx.som (hq _ (hI _ _ _ h1 (.inr ⟨Chg.set _ _ _, by rw [h2]; trivial⟩)) ?_)
    rw [List.getElem?_set_ne (by omega)]; exact h3
  · rw [h3]
    simp only
    rw [if_neg (by simp), jumpEx_of h1]
    have hx : x ≠ .normal := fun e => by subst e; cases h1
    refine Hx.som (hqe x _ hx (hE _ _ _ h2 (.inr ⟨Chg.set _ _ _, by rw [h3]; trivial⟩)) ?_)
    rw [List.getElem?_set_ne (by omega)]; exact h4
theorem walk1_goes {own : List Od} {w : AV} {k c l : Nat} {H0 : AH} (hl : own.length ≤ 1000000) (hk : own.length + 10 < k) :
    Goes ap k own.length (.func 38 [] [.ptr (some (c, 0))]) (fun j H a => a = [.agg (own.getD j dO).cs]) (fun H => H[c]? = some (.cells [w] .rw) ∧ OwnS H w own) H0 l := by
  intro J D hJ hD hI hround h0
  rw [hx_go fn38 rfl, b38]
  obtain ⟨i1, i2⟩ := hI _ _ h0
  obtain ⟨aw, cw, sw, rfl⟩ := i2.so.form
  simp [rowOf_rw i1]
  refine hx_up (fun i s => ∃ H', s = ⟨sp 16 [(0, .yield l), (5, .slice aw own.length cw sw), (6, .int .i64 own.length), (7, .int .i64 i)], H', []⟩ ∧ J i H') own.length ?_ ?_ (by omega) ⟨H0, by simp [maskS], h0⟩
  · rintro i s hi ⟨H1, rfl, hJ1⟩
    obtain ⟨-, i2⟩ := hI _ _ hJ1
    obtain ⟨b, o, c', r, e, g0, gg⟩ := SO.all i2.so (by intro h; simp [h] at hi)
    cases e
    obtain ⟨g1, g2, -⟩ := gg i hi
    have hi' : (i : Int) < own.length := by omega
    have wi : IntKind.i64.wrap ((i : Int) + 1) = (i : Int) + 1 := wrap_i64 (by omega) (by omega)
    have hr := hround i hi (H1 ++ [.cells own[i].cs .rw]) [.agg own[i].cs] (hJ _ _ _ hJ1 (.app _ _)) (by show _ = _; rw [getd hi])
    obtain ⟨x, hx⟩ : ∃ x, x = own[i] := ⟨_, rfl⟩
    rw [← hx] at g2 hr
    simp only [Od.cs] at g2 hr
    simp [hi', hi, g0, g1, g2]
    refine Hx.mapp hr ?_
    rintro ⟨r, H3⟩ (⟨h1, h2⟩ | ⟨h1, h2⟩)
    · simp only at h1 h2
      subst h1
      simp [wi, maskS]
      exact h2
    · simp only at h1 h2
      subst h1
      simp
      exact .inr h2
  · rintro s ⟨H1, rfl, hJ1⟩
    simp
    exact .inl hJ1
end Go.Proofs.Ytjpmddjibeecbaa.T.Qu
end
section
/-! Do any cross: the document's. Clone, DeleteFunc. -/
set_option linter.unusedVariables false
set_option linter.unusedSimpArgs false
set_option maxHeartbeats 4000000
set_option maxRecDepth 100000
namespace Go.Proofs.Ytjpmddjibeecbaa.T.Qu
open Go Go.Ab
section
variable {k : Nat} {H : AH}
theorem crossAt_at {l : List Od} {i j : Nat} (hi : i < l.length) (hj : j < i) (h : crossB l[i] (l[j]'(by omega)) = true) : crossAt l i = true := by
  rw [crossAt, getd hi, List.any_eq_true]
  refine ⟨l[j]'(by omega), ?_, h⟩
  have : (l.take i)[j]'(by simp; omega) = l[j]'(by omega) := by simp
  rw [← this]
  exact List.getElem_mem _
theorem crossAt_no {l : List Od} {i : Nat} (hi : i < l.length) (h : ∀ j (hj : j < i), crossB l[i] (l[j]'(by omega)) = false) : crossAt l i = false := by
  rw [crossAt, getd hi, List.any_eq_false]
  intro x hx
  obtain ⟨j, hj, rfl⟩ := List.getElem_of_mem hx
  rw [List.length_take] at hj
  have := h j (by omega)
  simp [this]
theorem rcrossed_ok {v : AV} {l : List Od} (h : SO H v l) (hl : l.length ≤ 1000000) (hk : l.length + 30 < k) : callA ap k (.func 23 [] []) [v] 0 H = some (.bool (crossedB l), H) := by
  obtain ⟨k, rfl⟩ : ∃ k', k = k' + 7 := ⟨k - 7, by omega⟩
  refine Hx.eqn ?_
  rw [hx_gg fn23 rfl, b23]
  obtain ⟨a, c, s, rfl⟩ := h.form
  simp
  refine hx_up (fun i st => ∃ H', st = ⟨sp 27 [(0, .slice a l.length c s), (3, .int .i64 i)], H', []⟩ ∧ Chg [] H H' ∧ crossN l i = false) l.length ?_ ?_ (by omega) ⟨H, by simp [maskS], .refl, rfl⟩
  · rintro i st hi ⟨H2, rfl, c2, ho⟩
    have hi' : (i : Int) < l.length := by omega
    have w : IntKind.i64.wrap ((i : Int) + 1) = (i : Int) + 1 := wrap_i64 (by omega) (by omega)
    simp [hi', hi]
    refine hx_up (fun j st => ∃ H', st = ⟨sp 27 [(0, .slice a l.length c s), (3, .int .i64 i), (4, .int .i64 j)], H', []⟩ ∧ Chg [] H H' ∧ ∀ m (hm : m < i), m < j → crossB l[i] (l[m]'(by omega)) = false) i ?_ ?_ (by omega) ⟨H2, by simp [maskS], c2, by simp⟩
    · rintro j st hj ⟨H3, rfl, c3, hn⟩
      have hj' : (j : Int) < l.length := by omega
      have hji : (j : Int) < i := by omega
      have hjl : j < l.length := by omega
      have wj : IntKind.i64.wrap ((j : Int) + 1) = (j : Int) + 1 := wrap_i64 (by omega) (by omega)
      simp [hj, hji]
      refine hx_drawn dc23_7 fun H4 c4 _ _ => ?_
      have c5 := c3.tr c4
      obtain ⟨b, o, c', r, e, g0, gg⟩ := SO.all (h.keep c5) (by intro h; simp [h] at hi)
      cases e
      obtain ⟨g1, g2, -⟩ := gg i hi
      obtain ⟨f1, f2, -⟩ := gg j hjl
      have key := fun (H : AH) => @rcross_ok (k + 3) H l[i] l[j]
      have hr := rorders_ok (k := k + 6) (h.keep c5) hl (by omega)
      cases hq : crossB l[i] l[j] with
      | true =>
        have hyes : crossN l l.length = true := crossN_up (i := i + 1) (by rw [crossN, crossAt_at hi hj hq, Bool.or_true]) _ hi
        rw [hq] at key
        simp only [Od.cs] at g2 f2 key
        simp [d23_7, hi', hi, hj', hjl, g0, g1, g2, f1, f2, key, hr, crossedB, hyes, gcF_flat, c5]
      | false =>
        rw [hq] at key
        simp only [Od.cs] at g2 f2 key
        simp [d23_7, hi', hi, hj', hjl, g0, g1, g2, f1, f2, key, maskS, wj]
        refine ⟨c5, fun m hm hmj => ?_⟩
        by_cases hmm : m = j
        · subst hmm; exact hq
        · exact hn m hm (by omega)
    · rintro st ⟨H3, rfl, c3, hn⟩
      simp [maskS, w]
      exact ⟨c3, by rw [crossN, ho, crossAt_no hi (fun j hj => hn j hj hj)]; rfl⟩
  · rintro st ⟨H2, rfl, c2, ho⟩
    simp [crossedB, ho, gcF_flat, c2]
end
end Go.Proofs.Ytjpmddjibeecbaa.T.Qu
end
section
/-! Rows of orders of one's own: Clone, DeleteFunc. -/
set_option linter.unusedVariables false
set_option linter.unusedSimpArgs false
set_option maxHeartbeats 4000000
set_option maxRecDepth 100000
namespace Go.Proofs.Ytjpmddjibeecbaa.T.Qu
open Go Go.Ab
section
variable {k : Nat} {H : AH}
/-- A row of one's own, of any room. -/
def RS (H : AH) (w : AV) (l : List Od) : Prop := (∃ c s, w = .slice none 0 c s ∧ l = []) ∨ (∃ b R, w = .slice (some (b, 0)) 0 (some 0) 6 ∧ rowOf H b = some R ∧ l = []) ∨ ∃ b c R r, w = .slice (some (b, 0)) l.length c 6 ∧ H[b]? = some (.cells R .rw) ∧ R = odsC l ++ r ∧ ∀ k, c = some k → l.length ≤ k
theorem RS.so {w : AV} {l : List Od} (h : RS H w l) : SO H w l := by
  rcases h with ⟨c, s, rfl, rfl⟩ | ⟨b, R, rfl, h, rfl⟩ | ⟨b, c, R, r, rfl, h, rfl, hc⟩
  · exact .nil _ _
  · exact SL.cap0 (by omega) h (by simp)
  · exact .at_ b 0 l.length c _ _ (by omega) (rowOf_rw h) (by simp; omega) (by rw [List.drop_zero, List.take_left' (by simp; omega)]) hc
theorem RS.chg {F : List Nat} {H' : AH} {w : AV} {l : List Od} (h : RS H w l) (c : Chg F H H') (hF : ∀ i ∈ blk w, i ∉ F) : RS H' w l := by
  rcases h with h | ⟨b, R, rfl, h, rfl⟩ | ⟨b, c', R, r, rfl, h, hR, hc⟩
  · exact .inl h
  · exact .inr (.inl ⟨b, R, rfl, c.row h (hF b (by simp)), rfl⟩)
  · exact .inr (.inr ⟨b, c', R, r, rfl, c.get h (hF b (by simp)), hR, hc⟩)
theorem RS.of {w : AV} {l : List Od} (h : Mine H 6 w (odsC l)) : RS H w l := by
  generalize hcs : odsC l = cs at h
  cases h with
  | nil c s =>
    have : l = [] := by
      have := congrArg List.length hcs
      simp at this
      exact List.length_eq_zero_iff.1 (by omega)
    exact .inl ⟨_, _, rfl, this⟩
  | row b n c R cs hz h1 h2 h3 h4 =>
    have hn : n = l.length := by
      have := congrArg List.length h3
      rw [← hcs] at this
      simp at this
      omega
    subst hn
    refine .inr (.inr ⟨b, c, R, R.drop (l.length * 6), rfl, h1, by rw [hcs, ← h3, List.take_append_drop], fun k e => ?_⟩)
    have := h4 k e
    omega
/-- An order is put. -/
theorem odsC_set {l : List Od} {r : List AV} {i : Nat} {x : Od} (hi : i < l.length) : (odsC l ++ r).take (i * 6) ++ (x.cs ++ (odsC l ++ r).drop (i * 6 + 6)) = odsC (l.set i x) ++ r := by
  have e1 : l.set i x = l.take i ++ x :: l.drop (i + 1) := by rw [List.set_eq_take_append_cons_drop, if_pos hi]
  rw [e1, List.take_append_of_le_length (by simp; omega), odsC_take, List.drop_append_of_le_length (by simp; omega), show i * 6 + 6 = (i + 1) * 6 by omega, odsC_drop, odsC_app]
  have : odsC (x :: l.drop (i + 1)) = x.cs ++ odsC (l.drop (i + 1)) := rfl
  rw [this]
  simp
theorem append0 {b : Nat} {x : AV} {l : List Od} (hr : rowOf H b = some []) (h : SO H x l) (hl : l.length ≤ 1000000) : aappend 0 H 6 48 (.slice (some (b, 0)) 0 (some 0) 6) x =
    some (if l = [] then (.slice (some (b, 0)) 0 (some 0) 6, H) else (.slice (some (H.length, 0)) l.length none 6, H ++ [.cells (odsC l) .rw])) := by
  obtain ⟨a, c, s, rfl⟩ := h.form
  have hf := h.first (n := l.length) (by simp; omega)
  have hs := h.sz_ok
  have hs0 : szOk 6 (.slice (some (b, 0)) 0 (some 0) 6) = true := rfl
  rw [aappend_eq, hs, hs0]
  simp only [lenOf, Option.bind_some, hf, odsC_one l, Bool.true_eq_false, if_false, aappendC, hr]
  by_cases h0 : l = []
  · subst h0
    simp
  · have : l.length ≠ 0 := fun h => h0 (List.length_eq_zero_iff.1 h)
    simp [h0, room]
    omega
theorem odsC_get {l : List Od} {r : List AV} {i : Nat} (hi : i < l.length) : ((odsC l ++ r).drop (i * 6)).take 6 = l[i].cs := by
  rw [List.drop_append_of_le_length (by simp; omega), odsC_drop, List.drop_eq_getElem_cons hi]
  have : odsC (l[i] :: l.drop (i + 1)) = l[i].cs ++ odsC (l.drop (i + 1)) := rfl
  rw [this, List.append_assoc, List.take_append_of_le_length (by simp [Od.cs])]
  exact List.take_of_length_le (by simp [Od.cs])
theorem aslice_low {n i b : Nat} {c : Option Nat} (hi : i ≤ n) : aslice H 6 (.slice (some (b, 0)) n c 6) (some (.int .i64 i)) none none = some (.slice (some (b, i * 6)) (n - i) (c.map (· - i)) 6) := by
  simp [aslice, abound, hi]
theorem aslice_high {n i b : Nat} {c : Option Nat} (hi : i ≤ n) (hc : ∀ k, c = some k → n ≤ k) : aslice H 6 (.slice (some (b, 0)) n c 6) none (some (.int .i64 i)) none = some (.slice (some (b, 0)) i c 6) := by
  cases c with
  | none => simp [aslice, abound, hi]
  | some c =>
    have := hc c rfl
    simp [aslice, abound, show i ≤ c by omega]
theorem clone_ok {v : AV} {l : List Od} (h : SO H v l) (hl : l.length ≤ 1000000) :
    Hx (callA ap (k + 1) (.func 26 [] []) [v] 0 H) fun r => Chg [] H r.2 ∧ RS r.2 r.1 l ∧ ∀ i ∈ blk r.1, H.length ≤ i := by
  rw [hx_go fn26 rfl, b26]
  obtain ⟨a, c, s, rfl⟩ := h.form
  cases a with
  | none =>
    have h0 : l = [] := by
      by_cases h0 : l = []
      · exact h0
      · obtain ⟨b, o, c', r, e, -⟩ := SO.all h h0
        cases e
    subst h0
    simp [eqV]
    exact ⟨.refl, .inl ⟨_, _, rfl, rfl⟩⟩
  | some p =>
    have hap := append0 (H := H ++ [.cells [] .pl]) (b := H.length) (by simp [rowOf]) (h.keep (.app _ _)) hl
    by_cases h0 : l = []
    · subst h0
      rw [if_pos rfl] at hap
      simp only [List.length_nil] at hap
      simp [eqV, hap]
      exact ⟨.app _ _, .inr (.inl ⟨H.length, [], rfl, by simp [rowOf], rfl⟩)⟩
    · rw [if_neg h0] at hap
      simp [eqV, hap]
      exact ⟨.app _ _, .inr (.inr ⟨_, none, odsC l, [], by simp; rfl, by simp, by simp, by simp⟩)⟩
theorem filter_take {P : Od → Bool} {l : List Od} {j : Nat} (hj : j < l.length) : (l.take (j + 1)).filter P = (l.take j).filter P ++ (if P l[j] = true then [l[j]] else []) := by
  rw [List.take_succ_eq_append_getElem hj, List.filter_append]
  simp only [List.filter_cons, List.filter_nil]
theorem delete_ok {v g : AV} {l : List Od} {P : Od → Bool} (h : RS H v l) (hx : extOf ap g = none) (hl : l.length ≤ 1000000) (hg : ∀ k' H' x, k ≤ k' → Chg (blk v) H H' → callA ap k' g [.agg (Od.cs x)] 0 H' = some (.bool (P x), H')) (hk : l.length + 10 < k) :
    Hx (callA ap (k + 2) (.func 29 [] []) [v, g] 0 H) fun r => RS r.2 r.1 (l.filter fun x => !P x) ∧ Chg (blk v) H r.2 ∧ ∀ i ∈ blk r.1, i ∈ blk v ∨ H.length ≤ i := by
  rw [hx_go fn29 rfl, b29]
  have key := indexFunc_ok (k := k) h.so hx hl (fun H' x c => hg k H' x (Nat.le_refl _) c.nil) hk
  cases hf : l.findIdx? P with
  | none =>
    have hid : idxF P l = -1 := by simp [idxF, hf]
    have hfl : l.filter (fun x => !P x) = l := by
      rw [List.filter_eq_self]
      intro x hx
      rw [List.findIdx?_eq_none_iff] at hf
      simp [hf x hx]
    rw [hid] at key
    obtain ⟨a, c, s, rfl⟩ := h.so.form
    rw [hfl]
    simp [key]
    exact ⟨h, .refl, fun i hi => .inl hi⟩
  | some i =>
    have hid : idxF P l = (i : Int) := by simp [idxF, hf]
    rw [List.findIdx?_eq_some_iff_getElem] at hf
    obtain ⟨hi, hp, hno⟩ := hf
    rw [hid] at key
    obtain ⟨b, c, R, r, rfl, hR, rfl, hc⟩ : ∃ b c R r, v = .slice (some (b, 0)) l.length c 6 ∧ H[b]? = some (.cells R .rw) ∧ R = odsC l ++ r ∧ ∀ k, c = some k → l.length ≤ k := by
      rcases h with ⟨c, s, rfl, rfl⟩ | ⟨b, R, rfl, h, rfl⟩ | h
      · simp at hi
      · simp at hi
      · exact h
    have w0 : IntKind.i64.wrap ((i : Int) + 1) = (i : Int) + 1 := wrap_i64 (by omega) (by omega)
    have hne : ¬ (i : Int) = -1 := by omega
    simp [key, w0, hne]
    refine hx_up (fun n st => ∃ H' cur i', st = ⟨sp 42 [(0, .slice (some (b, 0)) l.length c 6), (1, g), (5, .int .i64 (i' : Nat)), (6, .int .i64 (i + 1 + n : Nat))], H', []⟩ ∧ Chg [b] H H' ∧ cur.length = l.length ∧ H'[b]? = some (.cells (odsC cur ++ r) .rw) ∧
      i' < i + 1 + n ∧ cur.drop (i + 1 + n) = l.drop (i + 1 + n) ∧ cur.take i' = (l.take (i + 1 + n)).filter (fun x => !P x)) (l.length - (i + 1)) ?_ ?_ (by omega) ⟨H, l, i, by simp [maskS], .refl, rfl, hR, by omega, rfl, ?_⟩
    · rintro n st hn ⟨H1, cur, i', rfl, c1, hcl, hR1, hi1, hdr, htk⟩
      obtain ⟨j, ej⟩ : ∃ j, j = i + 1 + n := ⟨_, rfl⟩
      have ej' : i + 1 + (n + 1) = j + 1 := by omega
      rw [← ej] at hi1 hdr htk
      rw [ej', ← ej]
      have hjl : j < l.length := by omega
      have hjc : j < cur.length := by omega
      have hj' : (j : Int) < l.length := by omega
      have hi'l : i' < l.length := by omega
      have hi'' : (i' : Int) < l.length := by omega
      have wj : IntKind.i64.wrap ((j : Int) + 1) = (j : Int) + 1 := wrap_i64 (by omega) (by omega)
      have wi : IntKind.i64.wrap ((i' : Int) + 1) = (i' : Int) + 1 := wrap_i64 (by omega) (by omega)
      have hcj : cur[j] = l[j] := by
        have := congrArg (fun z => z[0]?) hdr
        simpa [hjl, hjc] using this
      obtain ⟨x, hxx⟩ : ∃ x, x = l[j] := ⟨_, rfl⟩
      have hget := odsC_get (r := r) hjc
      rw [hcj, ← hxx] at hget
      have hset := odsC_set (l := cur) (r := r) (i := i') (x := x) (by omega)
      obtain ⟨R1, eR⟩ : ∃ R1, R1 = odsC cur ++ r := ⟨_, rfl⟩
      have hRl : 6 * l.length ≤ R1.length := by rw [eR]; simp; omega
      rw [← eR] at hR1 hget hset
      have rb := rowOf_rw hR1
      have rw0 : rowRw H1 0 b = some R1 := rowRw_rw hR1
      obtain ⟨G, eG⟩ : ∃ G, G = H1 ++ [.cells x.cs .rw] := ⟨_, rfl⟩
      have cG : Chg [] H1 G := by rw [eG]; exact .app _ _
      have rG : rowOf G H1.length = some x.cs := by rw [eG]; simp [Od.cs]
      have rbG := cG.row rb (by simp)
      have gbG := cG.get hR1 (by simp)
      have rwG : rowRw G 0 b = some R1 := rowRw_rw gbG
      have hgx := hg (k + 1) G x (by omega) (by simpa using c1.tr cG)
      have hfil := filter_take (P := fun x => !P x) hjl
      rw [← hxx] at hfil
      have hlb := lt_of_get gbG
      have hb1 : j * 6 + 6 ≤ R1.length := by omega
      have hb2 : i' * 6 + 6 ≤ R1.length := by omega
      simp only [Od.cs] at hget hgx eG rG hset
      simp [hj', hjl, rb, hget, hb1]
      rw [← eG]
      cases hPx : P x with
      | true =>
        rw [hPx] at hgx hfil
        simp [rG, hgx, hx, maskS, wj]
        refine ⟨G, cur, i', ⟨rfl, rfl⟩, c1.tr cG, hcl, by rw [← eR]; exact gbG, by omega, ?_, ?_⟩
        · rw [← List.drop_drop, hdr, List.drop_drop]
        · rw [htk, hfil]; simp
      | false =>
        rw [hPx] at hgx hfil
        simp [rG, hgx, hx, maskS, wj, wi, rwG, hi'', hi'l, hb2, hset]
        simp only [List.cons_append, List.nil_append] at hset
        refine ⟨_, cur.set i' x, i' + 1, ⟨rfl, rfl⟩, (c1.tr cG).tr' (.set _ _ _), by simp [hcl], ?_, by omega, ?_, ?_⟩
        · rw [List.getElem?_set_self hlb, hset]
        · rw [List.drop_set_of_lt (by omega), ← List.drop_drop, hdr, List.drop_drop]
        · rw [hfil, ← htk, List.take_succ_eq_append_getElem (by simp; omega), List.take_set_of_le (Nat.le_refl _)]
          simp
    · rintro st ⟨H1, cur, i', rfl, c1, hcl, hR1, hi1, hdr, htk⟩
      rw [show i + 1 + (l.length - (i + 1)) = l.length by omega] at hi1 hdr htk ⊢
      rw [List.take_length] at htk
      obtain ⟨R1, eR⟩ : ∃ R1, R1 = odsC cur ++ r := ⟨_, rfl⟩
      have hRl : 6 * l.length ≤ R1.length := by rw [eR]; simp; omega
      rw [← eR] at hR1
      have rw0 : rowRw H1 0 b = some R1 := rowRw_rw hR1
      have n0 : ¬ l.length - i' = 0 := by omega
      have hb2 : i' * 6 + (l.length - i') * 6 ≤ R1.length := by omega
      have hi2 : i' ≤ l.length := by omega
      have z := fun H => @aslice_low H l.length i' b c hi2
      have z2 := fun H => @aslice_high H l.length i' b c hi2 hc
      simp [z, z2, rw0, n0, hb2]
      refine ⟨.inr (.inr ⟨b, c, _, (List.replicate (l.length - i') [AV.int .i64 0, .int .i64 0, .int .i64 0, .int .i64 0, .int .i64 0, .int .i64 0]).flatten ++ R1.drop (i' * 6 + (l.length - i') * 6), ?_, by rw [List.getElem?_set_self (lt_of_get hR1)], ?_, fun k e => ?_⟩), c1.tr' (.set _ _ _)⟩
      · rw [← htk, List.length_take, Nat.min_eq_left (by omega)]
      · rw [eR, List.take_append_of_le_length (by simp; omega), odsC_take, htk]
      · have := hc k e
        rw [← htk, List.length_take, Nat.min_eq_left (by omega)]
        omega
    · rw [Nat.add_zero, filter_take hi, hp]
      simp
      rw [List.filter_eq_self.2]
      intro x hx
      obtain ⟨m, hm, rfl⟩ := List.getElem_of_mem hx
      simp at hm
      have := hno m (by omega)
      simp at this ⊢
      exact this
end
end Go.Proofs.Ytjpmddjibeecbaa.T.Qu
end
section
/-! Who trades with whom: the program's Match. -/
set_option linter.unusedVariables false
set_option linter.unusedSimpArgs false
set_option maxHeartbeats 4000000
set_option maxRecDepth 100000
namespace Go.Proofs.Ytjpmddjibeecbaa.T.Qu
open Go Go.Ab
def trO (o x : Od) (q : Int) : Tr := if o.side = 2 then ⟨x.acc, o.acc, o.inst, q, x.p⟩ else ⟨o.acc, x.acc, o.inst, q, x.p⟩
def decO (id q : Int) (r : Od) : Od := if r.id = id then { r with q := r.q - q } else r
def mtch (o : Od) : List Od → List Od × List Tr × Int → List Od × List Tr × Int
  | [], s => s
  | x :: w, (rest, ts, left) => if left = 0 ∨ reachB o x.p = false then (rest, ts, left) else if x.acc = o.acc then mtch o w (rest, ts, left)
    else mtch o w (rest.map (decO x.id (min left x.q)), ts ++ [trO o x (min left x.q)], left - min left x.q)
def matchB (l : List Od) (o : Od) : List Od × List Tr × Int × Int := if rightL l && rightO o then
    (((mtch o (walkB l o.inst (3 - o.side)) (l, [], o.q)).1.filter fun x => !decide (x.q = 0)), (mtch o (walkB l o.inst (3 - o.side)) (l, [], o.q)).2.1, (mtch o (walkB l o.inst (3 - o.side)) (l, [], o.q)).2.2, 0)
  else ([], [], 0, 1)
theorem ordB_right {l : List Od} : ∀ n, ordB l n = true → ∀ i (hi : i < l.length), i < n → rightO l[i] = true
  | 0, _, i, _, h => by omega
  | n + 1, ho, i, hi, h => by
    rw [ordB] at ho
    simp only [Bool.and_eq_true] at ho
    by_cases hin : i = n
    · subst hin
      have := ho
      rw [getd hi] at this
      simp_all
    · exact ordB_right n ho.1 i hi (by omega)
theorem rightL_mem {l : List Od} (h : rightL l = true) : (∀ x ∈ l, rightO x = true) ∧ l.length ≤ 32 := by
  simp only [rightL, Bool.and_eq_true, decide_eq_true_eq] at h
  refine ⟨fun x hx => ?_, by omega⟩
  obtain ⟨i, hi, rfl⟩ := List.getElem_of_mem hx
  exact ordB_right l.length (by first | exact h.1 | exact h.2) i hi hi
theorem insP_mem {own : List Od} {o x : Od} (h : x ∈ insP own o) : x = o ∨ x ∈ own := by
  rw [insP] at h
  rcases List.mem_append.1 h with h | h
  · exact .inr (List.mem_of_mem_take h)
  · rcases List.mem_cons.1 h with h | h
    · exact .inl h
    · exact .inr (List.mem_of_mem_drop h)
theorem walkN_mem {l : List Od} {inst side : Int} {x : Od} : ∀ n, n ≤ l.length → x ∈ walkN l inst side n → x ∈ l
  | 0, _, h => by simp [walkN] at h
  | n + 1, hn, h => by
    rw [walkN] at h
    split at h
    · rcases insP_mem h with rfl | h
      · rw [getd (by omega)]; exact List.getElem_mem _
      · exact walkN_mem n (by omega) h
    · exact walkN_mem n (by omega) h
theorem walkB_mem {l : List Od} {inst side : Int} {x : Od} (h : x ∈ walkB l inst side) : x ∈ l := by
  unfold walkB at h
  split at h
  · exact walkN_mem _ (Nat.le_refl _) h
  · simp at h
theorem right_q {o : Od} (h : rightO o = true) : 1 ≤ o.q ∧ o.q ≤ 1000000000 ∧ (o.side = 1 ∨ o.side = 2) := by
  simp only [rightO, Bool.and_eq_true, decide_eq_true_eq, Bool.or_eq_true] at h
  omega
theorem odsC_setq {l : List Od} {r : List AV} {i : Nat} {z : Int} (hi : i < l.length) : (odsC l ++ r).take (i * 6 + 4) ++ (.int .i64 z :: (odsC l ++ r).drop (i * 6 + 4 + 1)) = odsC (l.set i { l[i] with q := z }) ++ r := by
  have hl : i * 6 + 4 < (odsC l ++ r).length := by simp; omega
  have e0 := List.set_eq_take_append_cons_drop (l := odsC l ++ r) (i := i * 6 + 4) (a := AV.int .i64 z)
  rw [if_pos hl] at e0
  rw [← e0]
  obtain ⟨A, B, y, hA, rfl⟩ : ∃ A B y, A.length = i ∧ l = A ++ y :: B := ⟨l.take i, l.drop (i + 1), l[i], by simp; omega, by simp⟩
  subst hA
  have e1 : (A ++ y :: B)[A.length] = y := by simp
  rw [e1]
  have e2 : (A ++ y :: B).set A.length { y with q := z } = A ++ { y with q := z } :: B := by simp
  rw [e2, odsC_app, odsC_app]
  have e3 : ∀ w : Od, odsC (w :: B) = w.cs ++ odsC B := fun _ => rfl
  rw [e3, e3, List.append_assoc, List.append_assoc, List.append_assoc, List.append_assoc, List.set_append_right _ _ (by simp; omega)]
  simp [Od.cs, show A.length * 6 + 4 - 6 * A.length = 4 by omega]
theorem odsC_at {l : List Od} {r : List AV} {i j : Nat} (hi : i < l.length) (hj : j < 6) : (odsC l ++ r)[i * 6 + j]? = l[i].cs[j]? := by
  have := congrArg (fun z => z[j]?) (odsC_get (r := r) hi)
  rw [List.getElem?_take_of_lt hj, List.getElem?_drop] at this
  exact this
theorem get_ne {e : List AV} {v : AV} {i j : Nat} (h : i ≠ j) : Go.Ab.get (e.set i v) j = Go.Ab.get e j := by unfold Go.Ab.get; rw [List.getElem?_set_ne h]
theorem get_self {e : List AV} {v : AV} {i : Nat} (h : i < e.length) : Go.Ab.get (e.set i v) i = v := by unfold Go.Ab.get; rw [List.getElem?_set_self h]; rfl
section
variable {k : Nat} {H : AH}
theorem match1_ok {x : Od} : callA ap (k + 1) (.func 30 [] []) [.agg x.cs] 0 H = some (.bool (decide (x.q = 0)), H) := by
  refine Hx.eqn ?_
  rw [hx_gg fn30 rfl, b30]
  simp [Od.cs]
/-- What holds ahead of each one that is met. -/
structure MI (H : AH) (o : Od) (own : List Od) (M : List Od × List Tr × Int) (p3 p8 p9 p10 cw : Nat) (w vr : AV) (n B j : Nat) (rest : List Od) (ts : List Tr) (left : Int) (vt : AV) (X : AH) : Prop where
  h3 : X[p3]? = some (.cells o.cs .rw)
  h8 : X[p8]? = some (.cells [vr] .rw)
  h9 : X[p9]? = some (.cells [.int .i64 left] .rw)
  h10 : X[p10]? = some (.cells [vt] .rw)
  hw : X[cw]? = some (.cells [w] .rw)
  ho : OwnS X w own
  hr : RS X vr rest
  ht : Mine X 5 vt (trsC ts)
  bt : ∀ i ∈ blk vt, B + 2 ≤ i
  rl : rest.length = n
  m : mtch o (own.drop j) (rest, ts, left) = M
  lq : 0 ≤ left ∧ left ≤ 1000000000
  rq : ∀ x ∈ rest, -(1000000000 * (j : Int)) ≤ x.q ∧ x.q ≤ 1000000000
  tl : ts.length ≤ j
  ch : Chg [] H X
theorem MI.chg {o : Od} {own : List Od} {M : List Od × List Tr × Int} {p3 p8 p9 p10 cw : Nat} {w vr : AV} {n B j : Nat} {rest : List Od} {ts : List Tr} {left : Int} {vt : AV} {X Y : AH} {F : List Nat}
    (h : MI H o own M p3 p8 p9 p10 cw w vr n B j rest ts left vt X) (c : Chg F X Y) (hF : ∀ i ∈ F, i = B ∨ i = B + 1) (hB : p3 < B ∧ p8 < B ∧ p9 < B ∧ p10 < B ∧ cw < B ∧ H.length ≤ B) (hw : ∀ i ∈ blk w, i < B) (hv : ∀ i ∈ blk vr, i < B) :
    MI H o own M p3 p8 p9 p10 cw w vr n B j rest ts left vt Y := by
  obtain ⟨b1, b2, b3, b4, b5, b6⟩ := hB
  have nF : ∀ i, i < B → i ∉ F := fun i hi hm => by have := hF i hm; omega
  exact ⟨c.get h.h3 (nF _ b1), c.get h.h8 (nF _ b2), c.get h.h9 (nF _ b3), c.get h.h10 (nF _ b4), c.get h.hw (nF _ b5), h.ho.chg c (fun i hi => nF i (hw i hi)), h.hr.chg c (fun i hi => nF i (hv i hi)),
    h.ht.chg c (fun i hi hm => by have := h.bt i hi; have := hF i hm; omega), h.bt, h.rl, h.m, h.lq, h.rq, h.tl, h.ch.trans c (fun i hi => .inr (by have := hF i hi; omega))⟩
theorem match_ok {v : AV} {l : List Od} {o : Od} (h : SO H v l) (hl : l.length ≤ 1000000) (hk : l.length + 60 < k) : Hx (callA ap k (.func 14 [] []) [v, .agg o.cs] 0 H) fun r => ∃ vr vt, r.1 = .tuple [vr, vt, .int .i64 (matchB l o).2.2.1, .int .i64 (matchB l o).2.2.2] ∧ SO r.2 vr (matchB l o).1 ∧ ST r.2 vt (matchB l o).2.1 ∧ Chg [] H r.2 ∧ ∀ b ∈ blk vr, H.length ≤ b := by
  obtain ⟨k, rfl⟩ : ∃ k', k = k' + 9 := ⟨k - 9, by omega⟩
  rw [hx_go fn14 rfl, b14]
  obtain ⟨a, c, s, rfl⟩ := h.form
  obtain ⟨G, eG⟩ : ∃ G, G = H ++ [.cells o.cs .rw] := ⟨_, rfl⟩
  have cG : Chg [] H G := by rw [eG]; exact .app _ _
  have hlen : H.length < G.length := by rw [eG]; simp
  have gG : G[H.length]? = some (.cells o.cs .rw) := by rw [eG]; simp
  have rG : rowOf G H.length = some o.cs := rowOf_rw gG
  have hr := right_ok (k := k + 8) (h.keep cG) hl (by omega)
  have ho := order_ok (k := k + 7) (H := G) (o := o)
  simp only [Od.cs] at eG rG ho
  cases hrr : rightL l with
  | false =>
    have hM : matchB l o = ([], [], 0, 1) := by simp [matchB, hrr]
    rw [hM]
    simp [Od.cs]
    rw [← eG]
    simp [hr, hrr]
    exact ⟨_, _, ⟨rfl, rfl⟩, .nil _ _, .nil _ _, cG, by simp⟩
  | true =>
    cases hoo : rightO o with
    | false =>
      have hM : matchB l o = ([], [], 0, 1) := by simp [matchB, hrr, hoo]
      rw [hM]
      simp [Od.cs]
      rw [← eG]
      simp [hr, hrr, rG, ho, hoo]
      exact ⟨_, _, ⟨rfl, rfl⟩, .nil _ _, .nil _ _, cG, by simp⟩
    | true =>
      obtain ⟨hmem, h32⟩ := rightL_mem hrr
      obtain ⟨q1, q2, q3⟩ := right_q hoo
      obtain ⟨own, eo⟩ : ∃ own, own = walkB l o.inst (3 - o.side) := ⟨_, rfl⟩
      obtain ⟨M, eM⟩ : ∃ M, M = mtch o own (l, [], o.q) := ⟨_, rfl⟩
      have hM : matchB l o = ((M.1.filter fun x => !decide (x.q = 0)), M.2.1, M.2.2, 0) := by
        rw [eM, eo]; simp [matchB, hrr, hoo]
      rw [hM]
      simp [Od.cs]
      rw [← eG]
      simp [hr, hrr, rG, ho, hoo]
      refine hx_drawn dc14_3 fun H1 c1 hl1 hd1 => ?_
      have hl1' : H1.length = G.length + 8 := hl1
      have e4 := hd1 4 (by decide)
      have e5 := hd1 5 (by decide)
      have rG1 := c1.row rG (by simp)
      simp [d14_3, rG1]
      refine Hx.mapp (clone_ok (h.keep (cG.tr c1)) hl) ?_
      rintro ⟨vr, H2⟩ ⟨c2, hvr, hbr⟩
      simp only at c2 hvr hbr
      obtain ⟨ar, cr, sr, rfl⟩ := hvr.so.form
      have f4 := c2.get e4 (by simp)
      have f5 := c2.get e5 (by simp)
      obtain ⟨m, hm⟩ : ∃ m, m = G.length + 4 := ⟨_, rfl⟩
      have hm5 : G.length + 5 = m + 1 := by omega
      rw [← hm] at e4 f4
      rw [hm5] at e5 f5
      have z4 : isDeadB H1[m]? = true := by rw [e4]; rfl
      have z5 : isDeadB H1[m + 1]? = true := by rw [e5]; rfl
      have y4 : isDeadB H2[m]? = true := by rw [f4]; rfl
      have y5 : isDeadB H2[m + 1]? = true := by rw [f5]; rfl
      have l5 := lt_of_get f5
      have s1 : ∀ (h : AH) X, rowRw (h.set m X) 0 (m + 1) = rowRw h 0 (m + 1) := fun h X => by simp [rowRw, List.getElem?_set_ne]
      have s2 : ∀ (h : AH) X, rowRw (h.set (m + 1) X) 0 m = rowRw h 0 m := fun h X => by simp [rowRw, List.getElem?_set_ne]
      have s3 : ∀ (h : AH) X, rowOf (h.set m X) H.length = rowOf h H.length := fun h X => by simp [rowOf, List.getElem?_set_ne (show m ≠ H.length by omega)]
      have s4 : ∀ (h : AH) X, rowOf (h.set (m + 1) X) H.length = rowOf h H.length := fun h X => by simp [rowOf, List.getElem?_set_ne (show m + 1 ≠ H.length by omega)]
      have s5 : ∀ l, rowRw (H2.set m (.cells l .rw)) 0 m = some l := fun l => rowRw_self (by omega)
      have s6 : ∀ (h : AH) l, h.length = H2.length → rowRw (h.set (m + 1) (.cells l .rw)) 0 (m + 1) = some l := fun h l e => rowRw_self (by omega)
      have rG2 := c2.row rG1 (by simp)
      simp [← hm, hm5, z4, z5, y4, y5, s1, s2, s3, s4, s5, s6, rG1, rG2]
      obtain ⟨H3, e3⟩ : ∃ H3, H3 = (((H2.set m (.cells [.slice none 0 (some 0) 0] .rw)).set (m + 1) (.cells [.int .i64 0] .rw)).set m (.cells [.slice ar l.length cr sr] .rw)).set (m + 1) (.cells [.int .i64 o.q] .rw) ++ [.cells [.slice none 0 (some 0) 0] .rw] := ⟨_, rfl⟩
      rw [← e3]
      have l3 : H3.length = H2.length + 1 := by rw [e3]; simp
      have c3 : Chg [m, m + 1] H2 H3 := by
        rw [e3]
        refine Chg.tr ?_ (.app _ _)
        exact ((((Chg.set _ _ _).mono (by simp)).tr' ((Chg.set _ _ _).mono (by simp))).tr' ((Chg.set _ _ _).mono (by simp))).tr' ((Chg.set _ _ _).mono (by simp))
      have cH1 : Chg [] H H1 := cG.tr c1
      have lH : H.length < m := by omega
      have lH1 := c2.1
      have g8 : H3[m]? = some (.cells [.slice ar l.length cr sr] .rw) := by
        rw [e3, List.getElem?_append_left (by simp; omega), List.getElem?_set_ne (by omega), List.getElem?_set_self (by simp; omega)]
      have g9 : H3[m + 1]? = some (.cells [.int .i64 o.q] .rw) := by
        rw [e3, List.getElem?_append_left (by simp; omega), List.getElem?_set_self (by simp; omega)]
      have g10 : H3[H2.length]? = some (.cells [.slice none 0 (some 0) 0] .rw) := by rw [e3]; simp
      have g3 : H3[H.length]? = some (.cells o.cs .rw) := c3.get (c2.get (c1.get gG (by simp)) (by simp)) (by simp; omega)
      have cH3 : Chg [] H H3 := (cH1.tr c2).trans c3 (by simp; omega)
      have hr3 : RS H3 (.slice ar l.length cr sr) l := hvr.chg c3 (fun i hi => by have := hbr i hi; simp; omega)
      have rG3 : rowOf H3 H.length = some _ := rowOf_rw g3
      have w3 : IntKind.i64.wrap (3 - o.side) = 3 - o.side := by rcases q3 with q | q <;> rw [q] <;> decide
      simp only [Od.cs] at rG3
      simp [rG3, w3]
      refine Hx.mapp (walk_ok (k := k + 8) (h.keep cH3) hl (by omega)) ?_
      rintro ⟨g, H4⟩ ⟨cw, w, eg, c4, hcw, gw, how, hbw⟩
      simp only at eg c4 hcw gw how hbw
      subst eg
      rw [← eo] at how
      simp
      have hBw : ∀ i ∈ blk w, i < H4.length := how.so.lt
      have hr4 := hr3.chg c4 (by simp)
      have hBv : ∀ i ∈ blk (AV.slice ar l.length cr sr), i < H2.length := hvr.so.lt
      have l4 := c4.1
      have hBv4 : ∀ i ∈ blk (AV.slice ar l.length cr sr), i < H4.length := fun i hi => by have := hBv i hi; omega
      have lcw := lt_of_get gw
      have hB : H.length < H4.length ∧ m < H4.length ∧ m + 1 < H4.length ∧ H2.length < H4.length ∧ cw < H4.length ∧ H.length ≤ H4.length := by omega
      have hown : own.length ≤ 32 := by
        rw [eo, walkB, if_pos hrr]
        exact Nat.le_trans (walkN_len _ _ _ _) h32
      have hmi : MI H o own M H.length m (m + 1) H2.length cw w (.slice ar l.length cr sr) l.length H4.length 0 l [] o.q (.slice none 0 (some 0) 0) H4 :=
        ⟨c4.get g3 (by simp), c4.get g8 (by simp), c4.get g9 (by simp), c4.get g10 (by simp), gw, how, hr4, .nil _ _, by simp, rfl, by rw [eM]; rfl, by omega, fun x hx => by have := right_q (hmem x hx); omega, by simp, cH3.tr c4⟩
      refine hx_rangeG (fun j _ a => a = [.agg (own.getD j dO).cs]) (fun X => X[cw]? = some (.cells [w] .rw) ∧ OwnS X w own)
        (fun j X => ∃ rest ts left vt, MI H o own M H.length m (m + 1) H2.length cw w (.slice ar l.length cr sr) l.length H4.length j rest ts left vt X)
        (fun x X => x = .exit 0 ∧ ∃ j rest ts left vt, MI H o own M H.length m (m + 1) H2.length cw w (.slice ar l.length cr sr) l.length H4.length j rest ts left vt X ∧ (rest, ts, left) = M) (n := own.length) rfl (walk1_goes (by omega) (by omega))
        ?_ ?_ (fun j X ⟨_, _, _, _, hm⟩ => ⟨hm.hw, hm.ho⟩) (fun j X a e => by rw [e]; rfl) ⟨_, _, _, _, hmi⟩ ?_ ?_ ?_
      · rintro j X Y ⟨rest, ts, left, vt, hm⟩ (c | c)
        · exact ⟨_, _, _, _, hm.chg c (by simp) hB hBw hBv4⟩
        · exact ⟨_, _, _, _, hm.chg c.1 (by simp) hB hBw hBv4⟩
      · rintro x X Y ⟨rfl, j, rest, ts, left, vt, hm, e⟩ (c | c)
        · exact ⟨rfl, _, _, _, _, _, hm.chg c (by simp) hB hBw hBv4, e⟩
        · exact ⟨rfl, _, _, _, _, _, hm.chg c.1 (by simp) hB hBw hBv4, e⟩
      · rintro j hj X a hI rfl hl1 hd1
        obtain ⟨x, hx⟩ : ∃ x, x = own.getD j dO := ⟨_, rfl⟩
        have hxl : x ∈ l := walkB_mem (inst := o.inst) (side := 3 - o.side) (by rw [← eo, hx, getd hj]; exact List.getElem_mem _)
        have hxq := right_q (hmem x hxl)
        have hdrop : own.drop j = x :: own.drop (j + 1) := by rw [hx, getd hj]; exact List.drop_eq_getElem_cons hj
        rw [← hx]
        unfold as14_0
        simp [setL, Od.cs]
        refine ⟨.app _ _, fun Y hls hlY hdY rest ts left vt hm ms => ?_⟩
        have hvt : ∀ i ∈ blk vt, i < X.length := by
          obtain ⟨_, _, _, vt0, hm0⟩ := hI
          have e1 := hls.get ((Chg.app (F := []) X _).get hm0.h10 (by simp))
          rw [hm.h10] at e1
          have : vt = vt0 := by simpa using e1
          rw [this]
          exact hm0.ht.lt
        have hXB : H4.length < X.length := lt_of_get hd1
        have r11 : rowOf Y X.length = some _ := hls.row (H := X ++ [.cells x.cs .rw]) (by simp [Od.cs]; rfl)
        have r3 := rowOf_rw hm.h3
        have r9 := rowOf_rw hm.h9
        simp only [Od.cs] at r3
        unfold bd14_0
        by_cases h0 : left = 0
        · have e : (rest, ts, left) = M := by
            have := hm.m
            rw [hdrop, mtch, if_pos (.inl h0)] at this
            exact this
          simp [r9, h0]
          exact ⟨j, rest, ts, left, ⟨vt, hm⟩, e⟩
        cases hre : reachB o x.p with
        | false =>
          have hre' : reachB ⟨o.id, o.acc, o.inst, o.side, o.q, o.p⟩ x.p = false := hre
          have e : (rest, ts, left) = M := by
            have := hm.m
            rw [hdrop, mtch, if_pos (.inr hre)] at this
            exact this
          simp [r9, r3, r11, h0, reaches_u, hre']
          exact ⟨j, rest, ts, left, ⟨vt, hm⟩, e⟩
        | true =>
          have hre' : reachB ⟨o.id, o.acc, o.inst, o.side, o.q, o.p⟩ x.p = true := hre
          have hnot : ¬ (left = 0 ∨ reachB o x.p = false) := by simp [h0, hre]
          by_cases ha : x.acc = o.acc
          · have hm' := hm.m
            rw [hdrop, mtch, if_neg hnot, if_pos ha] at hm'
            simp [r9, r3, r11, h0, reaches_u, hre', ha]
            exact ⟨rest, ts, left, vt, { hm with m := hm', rq := fun x hx => by have := hm.rq x hx; omega, tl := by have := hm.tl; omega }⟩
          · have hm' := hm.m
            rw [hdrop, mtch, if_neg hnot, if_neg ha] at hm'
            obtain ⟨q, hq⟩ : ∃ q, q = min left x.q := ⟨_, rfl⟩
            rw [← hq] at hm'
            have lq := hm.lq
            have hq2 : 0 ≤ q ∧ q ≤ left ∧ q ≤ x.q := by omega
            have hmin : amm1 false .i64 left [.int .i64 x.q] = some (.int .i64 q) := by
              rw [hq]
              by_cases h : x.q < left
              · simp [amm1, h]; omega
              · simp [amm1, h]; omega
            simp [r9, r3, r11, h0, reaches_u, hre', ha, amm, hmin]
            obtain ⟨Z, eZ⟩ : ∃ Z, Z = Y ++ [.cells [.int .i64 o.acc, .int .i64 x.acc, .int .i64 o.inst, .int .i64 q, .int .i64 x.p] .rw] := ⟨_, rfl⟩
            have cZ : Chg [] Y Z := by rw [eZ]; exact .app _ _
            have gZ : Z[Y.length]? = some (.cells [.int .i64 o.acc, .int .i64 x.acc, .int .i64 o.inst, .int .i64 q, .int .i64 x.p] .rw) := by rw [eZ]; simp
            have r3Z := cZ.row r3 (by simp)
            have r11Z := cZ.row r11 (by simp)
            rw [← eZ]
            by_cases hs : o.side = 2
            · simp [r3Z, hs]
              refine hx_drawn dc14_12 fun Z1 d0 _ _ => ?_
              have gZ1 := d0.get gZ (by simp)
              have k0 := d0.row r3Z (by simp)
              have k1 := d0.row r11Z (by simp)
              have k2 : rowRw Z1 0 Y.length = some _ := rowRw_rw gZ1
              have k3 := rowOf_rw gZ1
              have k4 : ∀ l, rowRw (Z1.set Y.length (.cells l .rw)) 0 Y.length = some l := fun l => rowRw_self (lt_of_get gZ1)
              have k5 : ∀ (h : AH) X', rowOf (h.set Y.length X') H.length = rowOf h H.length := fun h X' => by
                have := lt_of_get hm.h3
                simp [rowOf, List.getElem?_set_ne (show Y.length ≠ H.length by omega)]
              have k6 : ∀ (h : AH) X', rowOf (h.set Y.length X') X.length = rowOf h X.length := fun h X' => by
                have := rowOf_lt r11
                simp [rowOf, List.getElem?_set_ne (show Y.length ≠ X.length by omega)]
              simp [d14_12, k0, k1, k2, k3, k4, k5, k6]
              obtain ⟨W, eW⟩ : ∃ W, W = Z1.set Y.length (.cells [.int .i64 x.acc, .int .i64 o.acc, .int .i64 o.inst, .int .i64 q, .int .i64 x.p] .rw) := ⟨_, rfl⟩
              have cW : Chg [] Y W := by rw [eW]; exact (cZ.tr d0).set_new (Nat.le_refl _) _
              have gT : W[Y.length]? = some (.cells (trO o x q).cs .rw) := by rw [eW, List.getElem?_set_self (lt_of_get gZ1)]; simp [trO, hs, Tr.cs]
              rw [← eW]
              have hm2 := hm.chg (Y := W) (F := []) cW (by simp) hB hBw hBv4
              have hlW : isLoop W[H4.length + 1]? := by
                rw [cW.2 _ (by
                  rcases Nat.lt_or_ge (H4.length + 1) Y.length with h | h
                  · exact h
                  · exfalso
                    have hly : isLoop Y[H4.length + 1]? := hlY
                    rw [List.getElem?_eq_none h] at hly
                    exact hly) (by simp)]
                exact hlY
              have hdW : W[H4.length]? = some (.deferred false) := cW.get hdY (by simp)
              have rT := rowOf_rw gT
              refine hx_drawn dc14_13 fun W1 d1 hl2 hd2 => ?_
              have e2 := hd2 2 (by decide)
              obtain ⟨mm, hmm⟩ : ∃ mm, mm = W.length + 2 := ⟨_, rfl⟩
              rw [← hmm] at e2
              have z2 : isDeadB W1[mm]? = true := by rw [e2]; rfl
              have p9 := rowOf_rw (d1.get hm2.h9 (by simp))
              have p10 := rowOf_rw (d1.get hm2.h10 (by simp))
              have pT := d1.row rT (by simp)
              obtain ⟨av, cv, sv, ev⟩ := ST.form hm2.ht.sl
              simp only [Tr.cs, trO, hs, if_true, if_false] at pT
              have hmW : W.length < mm := by omega
              have lW4 : H4.length < W.length := lt_of_get hdW
              have lWY : Y.length < W.length := lt_of_get gT
              have s1 : ∀ (h : AH) X, rowOf (h.set mm X) (m + 1) = rowOf h (m + 1) := fun h X => by simp [rowOf, List.getElem?_set_ne (show mm ≠ m + 1 by omega)]
              have s2 : ∀ (h : AH) X, rowOf (h.set mm X) H2.length = rowOf h H2.length := fun h X => by simp [rowOf, List.getElem?_set_ne (show mm ≠ H2.length by omega)]
              have s3 : ∀ (h : AH) X, rowOf (h.set mm X) Y.length = rowOf h Y.length := fun h X => by simp [rowOf, List.getElem?_set_ne (show mm ≠ Y.length by omega)]
              have wq : IntKind.i64.wrap (left - q) = left - q := wrap_i64 (by omega) (by omega)
              obtain ⟨W2, eW2⟩ : ∃ W2, W2 = W1.set mm (.cells (trO o x q).cs .pl) := ⟨_, rfl⟩
              have cW2 : Chg [] W W2 := by rw [eW2]; exact d1.set_new (by omega) _
              have gmm : W2[mm]? = some (.cells (trO o x q).cs .pl) := by rw [eW2, List.getElem?_set_self (lt_of_get e2)]
              have slT : SL W2 5 (.slice (some (mm, 0)) 1 (some 1) 5) (trO o x q).cs := .at_ mm 0 1 (some 1) (trO o x q).cs _ (by omega) (by simp [rowOf, gmm]) (by simp [Tr.cs]) (by simp [Tr.cs]) (by simp)
              have happ := (hm2.ht.keep cW2).append slT (by_ := 40) (by omega) (by omega) (by simp [Tr.cs]) (by have := hm2.tl; simp [room, Tr.cs]; omega)
              simp only [Tr.cs, trO, hs, if_true, if_false] at eW2
              simp [d14_13, p9, p10, pT, ← hmm, z2, s1, s2, s3, wq]
              rw [← eW2, ev]
              rw [ev] at happ
              refine Hx.mapp happ ?_
              rw [← ev]
              rintro ⟨vt', W3⟩ ⟨t1, t2, t3⟩
              simp only at t1 t2 t3
              rw [← trsC_snoc] at t1
              have nb : ∀ i, i < H4.length + 2 → i ∉ blk vt := fun i hi h => by have := hm2.bt i h; omega
              have u9 := t2.get (cW2.get hm2.h9 (by simp)) (nb _ (by omega))
              have u10 := t2.get (cW2.get hm2.h10 (by simp)) (nb _ (by omega))
              have u8 := t2.get (cW2.get hm2.h8 (by simp)) (nb _ (by omega))
              have v9 := rowOf_rw u9
              have v10 : rowRw W3 0 H2.length = some _ := rowRw_rw u10
              have v9' : ∀ X, rowRw (W3.set H2.length X) 0 (m + 1) = some [.int .i64 left] := fun X => by simp [rowRw, List.getElem?_set_ne (show H2.length ≠ m + 1 by omega), u9]
              have v9'' : ∀ X, rowOf (W3.set H2.length X) (m + 1) = some [.int .i64 left] := fun X => by simp [rowOf, List.getElem?_set_ne (show H2.length ≠ m + 1 by omega), u9]
              obtain ⟨av', cv', sv', ev'⟩ := ST.form t1.sl
              rw [ev', ev]
              rw [ev] at v10
              have x1 := cW2.row rT (by simp)
              simp only [Tr.cs, trO, hs, if_true, if_false] at x1
              have x2 := rowOf_rw (cW2.get hm2.h10 (by simp))
              rw [ev] at x2
              have x3 : ∀ X X', rowOf ((W3.set H2.length X).set (m + 1) X') m = some [.slice ar l.length cr sr] := fun X X' => by
                simp [rowOf, List.getElem?_set_ne (show H2.length ≠ m by omega), u8]
              simp [v9, v10, v9', v9'', x1, x2, x3]
              obtain ⟨W4, e4'⟩ : ∃ W4, W4 = (W3.set H2.length (.cells [.slice av' (ts.length + 1) cv' sv'] .rw)).set (m + 1) (.cells [.int .i64 (left - q)] .rw) := ⟨_, rfl⟩
              rw [← e4']
              have lW1 : H4.length < W1.length := by have := d1.1; omega
              have lW2 : W.length ≤ W2.length := cW2.1
              have lW3 := t2.1
              have c43 : Chg [H2.length, m + 1] W3 W4 := by
                rw [e4']
                exact ((Chg.set _ _ _).mono (by simp)).tr' ((Chg.set _ _ _).mono (by simp))
              have y3 := c43.get (t2.get (cW2.get hm2.h3 (by simp)) (nb _ (by omega))) (by simp; omega)
              have y8 := c43.get u8 (by simp; omega)
              have y9 : W4[m + 1]? = some (.cells [.int .i64 (left - q)] .rw) := by
                rw [e4', List.getElem?_set_self (by simp; omega)]
              have y10 : W4[H2.length]? = some (.cells [vt'] .rw) := by
                rw [e4', List.getElem?_set_ne (by omega), List.getElem?_set_self (by omega), ev']
                simp
              have yw := c43.get (t2.get (cW2.get hm2.hw (by simp)) (nb _ (by omega))) (by simp; omega)
              have yo := (hm2.ho.chg (cW2.nil.trans t2 (fun i hi => .inl hi)) (fun i hi h => by have := hBw i hi; have := hm2.bt i h; omega)).chg c43 (fun i hi => by have := hbw i hi; simp; omega)
              have yr := (hm2.hr.chg (cW2.nil.trans t2 (fun i hi => .inl hi)) (fun i hi h => by have := hBv4 i hi; have := hm2.bt i h; omega)).chg c43 (fun i hi => by have := hbr i hi; have := hBv i hi; simp; omega)
              have yb : ∀ i ∈ blk vt', H4.length + 2 ≤ i := fun i hi => by
                rcases t3 i hi with h | h
                · exact hm2.bt i h
                · have : isLoop W2[H4.length + 1]? := by
                    rw [cW2.2 _ (by
                      rcases Nat.lt_or_ge (H4.length + 1) W.length with h | h
                      · exact h
                      · rw [List.getElem?_eq_none h] at hlW; exact hlW.elim) (by simp)]
                    exact hlW
                  rcases Nat.lt_or_ge (H4.length + 1) W2.length with h' | h'
                  · omega
                  · rw [List.getElem?_eq_none h'] at this; exact this.elim
              have yt := t1.chg c43 (fun i hi => by have := yb i hi; simp; omega)
              have yc : Chg [] H W4 := ((hm2.ch.tr cW2).trans t2 (fun i hi => .inr (by have := hm2.bt i hi; omega))).trans c43 (by simp; omega)
              have hrl := hm2.rl
              refine hx_up (fun i st => ∃ env V cur, st = ⟨env, V, ms⟩ ∧ env.length = 108 ∧ Go.Ab.get env 8 = .ptr (some (m, 0)) ∧ Go.Ab.get env 11 = .ptr (some (X.length, 0)) ∧ Go.Ab.get env 12 = .int .i64 q ∧ Go.Ab.get env 82 = .int .i64 l.length ∧ Go.Ab.get env 83 = .int .i64 i ∧
                Chg (blk (.slice ar l.length cr sr)) W4 V ∧ RS V (.slice ar l.length cr sr) cur ∧ cur = (rest.take i).map (decO x.id q) ++ rest.drop i) l.length ?_ ?_ (by omega) ⟨_, W4, rest, rfl, rfl, rfl, rfl, rfl, rfl, rfl, .refl, yr, rfl⟩
              · rintro i st hi ⟨env, V, cur, rfl, hel, E8, E11, E12, E82, E83, cV, hrV, ecur⟩
                have hi' : (i : Int) < l.length := by omega
                have wi : IntKind.i64.wrap ((i : Int) + 1) = (i : Int) + 1 := wrap_i64 (by omega) (by omega)
                have hcl : cur.length = l.length := by rw [ecur]; simp; omega
                have hir : i < rest.length := by omega
                have hci : cur[i]'(by omega) = rest[i] := by
                  subst ecur
                  rw [List.getElem_append_right (by simp; omega)]
                  simp [show i - min i rest.length = 0 by omega]
                have qi := hm2.rq rest[i] (List.getElem_mem _)
                have hj32 : (j : Int) ≤ 32 := by omega
                simp [E82, E83, hi', get_ne, get_self, hel]
                refine hx_drawn dc14_17 fun V1 d2 _ _ => ?_
                obtain ⟨b0, R, r, ear, esr, hR, eR, hcc⟩ : ∃ b0 R r, ar = some (b0, 0) ∧ sr = 6 ∧ V[b0]? = some (.cells R .rw) ∧ R = odsC cur ++ r ∧ ∀ k, cr = some k → cur.length ≤ k := by
                  rcases hrV with ⟨_, _, _, e⟩ | ⟨_, _, _, _, e⟩ | ⟨b0, c0, R, r, e, h, hR, hc0⟩
                  · rw [e] at hcl; simp at hcl; omega
                  · rw [e] at hcl; simp at hcl; omega
                  · injection e with z1 z2 z3 z4
                    exact ⟨b0, R, r, z1, z4, h, hR, fun k e => hc0 k (z3 ▸ e)⟩
                have hb0 : b0 ∈ blk (AV.slice ar l.length cr sr) := by rw [ear]; simp
                have hb1 := hBv _ hb0
                have hb2 := hbr _ hb0
                have bv : ∀ i, i ∈ blk (AV.slice ar l.length cr sr) → i = b0 := fun i hi => by rw [ear] at hi; simpa using hi
                have q8 := rowOf_rw (d2.get (cV.get y8 (fun h => by have := bv _ h; omega)) (by simp))
                have q11 := d2.row (cV.row (c43.row (t2.row (cW2.row (cW.row r11 (by simp)) (by simp)) (fun h => by have := hvt _ h; omega)) (by simp; omega)) (fun h => by have := bv _ h; omega)) (by simp)
                have qR := d2.get hR (by simp)
                have qR1 := rowOf_rw qR
                have qR2 : rowRw V1 0 b0 = some R := rowRw_rw qR
                have a0 : R[i * 6]? = some (.int .i64 rest[i].id) := by
                  have := odsC_at (l := cur) (r := r) (i := i) (j := 0) (by omega) (by omega)
                  rw [← eR, hci] at this
                  exact this
                have a4 : R[i * 6 + 4]? = some (.int .i64 rest[i].q) := by
                  have := odsC_at (l := cur) (r := r) (i := i) (j := 4) (by omega) (by omega)
                  rw [← eR, hci] at this
                  exact this
                have hRl : i * 6 + 4 + 1 ≤ R.length := by rw [eR]; simp; omega
                have hset := fun z => odsC_setq (l := cur) (r := r) (i := i) (z := z) (by omega)
                have wr : IntKind.i64.wrap (rest[i].q - q) = rest[i].q - q := wrap_i64 (by omega) (by omega)
                have hnext : ∀ y : Od, y = decO x.id q rest[i] → cur.set i y = (rest.map (decO x.id q)).take (i + 1) ++ rest.drop (i + 1) := by
                  intro y hy
                  have hd : rest.drop i = rest[i] :: rest.drop (i + 1) := List.drop_eq_getElem_cons hir
                  rw [ecur, List.set_append_right _ _ (by simp; omega), ← List.map_take, List.take_succ_eq_append_getElem hir, List.map_append, List.append_assoc, hd, show i - ((rest.take i).map (decO x.id q)).length = 0 by simp; omega, List.set_cons_zero, hy]
                  rfl
                rw [ear, esr] at q8
                by_cases hid : rest[i].id = x.id
                · simp [d14_17, E8, E11, E12, E82, E83, hel, get_ne, get_self, q8, q11, qR1, qR2, hi', hi, a0, a4, hid, wr, hRl, wi]
                  refine ⟨_, _, rfl, by simp [hel], by simp [get_ne, E8], by simp [get_ne, E11], by simp [get_ne, E12], by simp [get_ne, E82], by simp [get_self, hel], ?_, ?_⟩
                  · exact (cV.tr d2).tr' ((Chg.set _ _ _).mono (fun i hi => .inl (by simp at hi; rw [hi]; exact hb0)))
                  · have hn := hnext { rest[i] with q := rest[i].q - q } (by simp [decO, hid])
                    have hs := hset (rest[i].q - q)
                    rw [hci, hn, ← eR] at hs
                    refine .inr (.inr ⟨b0, cr, _, r, ?_, by rw [List.getElem?_set_self (lt_of_get qR)], hs, fun k e => ?_⟩)
                    · rw [← hn, List.length_set, hcl, ear, esr]
                    · rw [← hn, List.length_set]; exact hcc k e
                · simp [d14_17, E8, E11, E12, E82, E83, hel, get_ne, get_self, q8, q11, qR1, qR2, hi', hi, a0, a4, hid, wr, hRl, wi]
                  refine ⟨_, _, rfl, by simp [hel], by simp [get_ne, E8], by simp [get_ne, E11], by simp [get_ne, E12], by simp [get_ne, E82], by simp [get_self, hel], cV.tr d2, ?_⟩
                  have hn := hnext rest[i] (by simp [decO, hid])
                  rw [← hci, List.set_getElem_self] at hn
                  rw [← hn]
                  exact hrV.chg d2 (by simp)
              · rintro st ⟨env, V, cur, rfl, hel, E8, E11, E12, E82, E83, cV, hrV, ecur⟩
                simp [E82, E83, get_ne, get_self, hel]
                have n1 : ∀ i, i < H1.length → i ∉ blk (AV.slice ar l.length cr sr) := fun i hi h => by have := hbr _ h; omega
                have n2 : ∀ i, H2.length ≤ i → i ∉ blk (AV.slice ar l.length cr sr) := fun i hi h => by have := hBv _ h; omega
                have gd := cV.get (c43.get (t2.get (cW2.get hdW (by simp)) (nb _ (by omega))) (by simp; omega)) (n2 _ (by omega))
                obtain ⟨A, eA⟩ : ∃ A, Y[H4.length + 1]? = some A := by
                  have hly : isLoop Y[H4.length + 1]? := hlY
                  cases hY : Y[H4.length + 1]? with
                  | none => rw [hY] at hly; exact hly.elim
                  | some A => exact ⟨A, rfl⟩
                have gl := cV.get (c43.get (t2.get (cW2.get (cW.get eA (by simp)) (by simp)) (nb _ (by omega))) (by simp; omega)) (n2 _ (by omega))
                refine ⟨by rw [gl, eA], by rw [gd]; exact hdY.symm, rest.map (decO x.id q), ts ++ [trO o x q], left - q, vt', ?_⟩
                have ecur' : cur = rest.map (decO x.id q) := by
                  rw [ecur, ← hrl, List.take_length, List.drop_length, List.append_nil]
                rw [ecur'] at hrV
                exact ⟨cV.get y3 (n1 _ (by omega)), cV.get y8 (n1 _ (by omega)), cV.get y9 (n1 _ (by omega)), cV.get y10 (n2 _ (by omega)), cV.get yw (n2 _ (by omega)), yo.chg cV (fun i hi => n2 _ (by have := hbw i hi; omega)), hrV,
                  yt.chg cV (fun i hi => n2 _ (by have := yb i hi; omega)), yb, by simp [hrl], hm', by omega, fun y hy => by
                    obtain ⟨z, hz, rfl⟩ := List.mem_map.1 hy
                    have := hm2.rq z hz
                    by_cases hz2 : z.id = x.id
                    · simp [decO, hz2]; omega
                    · simp [decO, hz2]; omega, by have := hm2.tl; simp; omega, yc.trans cV (fun i hi => .inr (by have := hbr i hi; omega))⟩
            simp [r3Z, hs]
            obtain ⟨W, eW⟩ : ∃ W, W = Z := ⟨_, rfl⟩
            have cW : Chg [] Y W := eW ▸ cZ
            have gT : W[Y.length]? = some (.cells (trO o x q).cs .rw) := by rw [eW, gZ]; simp [trO, hs, Tr.cs]
            rw [← eW]
            have hm2 := hm.chg (Y := W) (F := []) cW (by simp) hB hBw hBv4
            have hlW : isLoop W[H4.length + 1]? := by
              rw [cW.2 _ (by
                rcases Nat.lt_or_ge (H4.length + 1) Y.length with h | h
                · exact h
                · exfalso
                  have hly : isLoop Y[H4.length + 1]? := hlY
                  rw [List.getElem?_eq_none h] at hly
                  exact hly) (by simp)]
              exact hlY
            have hdW : W[H4.length]? = some (.deferred false) := cW.get hdY (by simp)
            have rT := rowOf_rw gT
            refine hx_drawn dc14_13 fun W1 d1 hl2 hd2 => ?_
            have e2 := hd2 2 (by decide)
            obtain ⟨mm, hmm⟩ : ∃ mm, mm = W.length + 2 := ⟨_, rfl⟩
            rw [← hmm] at e2
            have z2 : isDeadB W1[mm]? = true := by rw [e2]; rfl
            have p9 := rowOf_rw (d1.get hm2.h9 (by simp))
            have p10 := rowOf_rw (d1.get hm2.h10 (by simp))
            have pT := d1.row rT (by simp)
            obtain ⟨av, cv, sv, ev⟩ := ST.form hm2.ht.sl
            simp only [Tr.cs, trO, hs, if_true, if_false] at pT
            have hmW : W.length < mm := by omega
            have lW4 : H4.length < W.length := lt_of_get hdW
            have lWY : Y.length < W.length := lt_of_get gT
            have s1 : ∀ (h : AH) X, rowOf (h.set mm X) (m + 1) = rowOf h (m + 1) := fun h X => by simp [rowOf, List.getElem?_set_ne (show mm ≠ m + 1 by omega)]
            have s2 : ∀ (h : AH) X, rowOf (h.set mm X) H2.length = rowOf h H2.length := fun h X => by simp [rowOf, List.getElem?_set_ne (show mm ≠ H2.length by omega)]
            have s3 : ∀ (h : AH) X, rowOf (h.set mm X) Y.length = rowOf h Y.length := fun h X => by simp [rowOf, List.getElem?_set_ne (show mm ≠ Y.length by omega)]
            have wq : IntKind.i64.wrap (left - q) = left - q := wrap_i64 (by omega) (by omega)
            obtain ⟨W2, eW2⟩ : ∃ W2, W2 = W1.set mm (.cells (trO o x q).cs .pl) := ⟨_, rfl⟩
            have cW2 : Chg [] W W2 := by rw [eW2]; exact d1.set_new (by omega) _
            have gmm : W2[mm]? = some (.cells (trO o x q).cs .pl) := by rw [eW2, List.getElem?_set_self (lt_of_get e2)]
            have slT : SL W2 5 (.slice (some (mm, 0)) 1 (some 1) 5) (trO o x q).cs := .at_ mm 0 1 (some 1) (trO o x q).cs _ (by omega) (by simp [rowOf, gmm]) (by simp [Tr.cs]) (by simp [Tr.cs]) (by simp)
            have happ := (hm2.ht.keep cW2).append slT (by_ := 40) (by omega) (by omega) (by simp [Tr.cs]) (by have := hm2.tl; simp [room, Tr.cs]; omega)
            simp only [Tr.cs, trO, hs, if_true, if_false] at eW2
            simp [d14_13, p9, p10, pT, ← hmm, z2, s1, s2, s3, wq]
            rw [← eW2, ev]
            rw [ev] at happ
            refine Hx.mapp happ ?_
            rw [← ev]
            rintro ⟨vt', W3⟩ ⟨t1, t2, t3⟩
            simp only at t1 t2 t3
            rw [← trsC_snoc] at t1
            have nb : ∀ i, i < H4.length + 2 → i ∉ blk vt := fun i hi h => by have := hm2.bt i h; omega
            have u9 := t2.get (cW2.get hm2.h9 (by simp)) (nb _ (by omega))
            have u10 := t2.get (cW2.get hm2.h10 (by simp)) (nb _ (by omega))
            have u8 := t2.get (cW2.get hm2.h8 (by simp)) (nb _ (by omega))
            have v9 := rowOf_rw u9
            have v10 : rowRw W3 0 H2.length = some _ := rowRw_rw u10
            have v9' : ∀ X, rowRw (W3.set H2.length X) 0 (m + 1) = some [.int .i64 left] := fun X => by simp [rowRw, List.getElem?_set_ne (show H2.length ≠ m + 1 by omega), u9]
            have v9'' : ∀ X, rowOf (W3.set H2.length X) (m + 1) = some [.int .i64 left] := fun X => by simp [rowOf, List.getElem?_set_ne (show H2.length ≠ m + 1 by omega), u9]
            obtain ⟨av', cv', sv', ev'⟩ := ST.form t1.sl
            rw [ev', ev]
            rw [ev] at v10
            have x1 := cW2.row rT (by simp)
            simp only [Tr.cs, trO, hs, if_true, if_false] at x1
            have x2 := rowOf_rw (cW2.get hm2.h10 (by simp))
            rw [ev] at x2
            have x3 : ∀ X X', rowOf ((W3.set H2.length X).set (m + 1) X') m = some [.slice ar l.length cr sr] := fun X X' => by
              simp [rowOf, List.getElem?_set_ne (show H2.length ≠ m by omega), u8]
            simp [v9, v10, v9', v9'', x1, x2, x3]
            obtain ⟨W4, e4'⟩ : ∃ W4, W4 = (W3.set H2.length (.cells [.slice av' (ts.length + 1) cv' sv'] .rw)).set (m + 1) (.cells [.int .i64 (left - q)] .rw) := ⟨_, rfl⟩
            rw [← e4']
            have lW1 : H4.length < W1.length := by have := d1.1; omega
            have lW2 : W.length ≤ W2.length := cW2.1
            have lW3 := t2.1
            have c43 : Chg [H2.length, m + 1] W3 W4 := by
              rw [e4']
              exact ((Chg.set _ _ _).mono (by simp)).tr' ((Chg.set _ _ _).mono (by simp))
            have y3 := c43.get (t2.get (cW2.get hm2.h3 (by simp)) (nb _ (by omega))) (by simp; omega)
            have y8 := c43.get u8 (by simp; omega)
            have y9 : W4[m + 1]? = some (.cells [.int .i64 (left - q)] .rw) := by
              rw [e4', List.getElem?_set_self (by simp; omega)]
            have y10 : W4[H2.length]? = some (.cells [vt'] .rw) := by
              rw [e4', List.getElem?_set_ne (by omega), List.getElem?_set_self (by omega), ev']
              simp
            have yw := c43.get (t2.get (cW2.get hm2.hw (by simp)) (nb _ (by omega))) (by simp; omega)
            have yo := (hm2.ho.chg (cW2.nil.trans t2 (fun i hi => .inl hi)) (fun i hi h => by have := hBw i hi; have := hm2.bt i h; omega)).chg c43 (fun i hi => by have := hbw i hi; simp; omega)
            have yr := (hm2.hr.chg (cW2.nil.trans t2 (fun i hi => .inl hi)) (fun i hi h => by have := hBv4 i hi; have := hm2.bt i h; omega)).chg c43 (fun i hi => by have := hbr i hi; have := hBv i hi; simp; omega)
            have yb : ∀ i ∈ blk vt', H4.length + 2 ≤ i := fun i hi => by
              rcases t3 i hi with h | h
              · exact hm2.bt i h
              · have : isLoop W2[H4.length + 1]? := by
                  rw [cW2.2 _ (by
                    rcases Nat.lt_or_ge (H4.length + 1) W.length with h | h
                    · exact h
                    · rw [List.getElem?_eq_none h] at hlW; exact hlW.elim) (by simp)]
                  exact hlW
                rcases Nat.lt_or_ge (H4.length + 1) W2.length with h' | h'
                · omega
                · rw [List.getElem?_eq_none h'] at this; exact this.elim
            have yt := t1.chg c43 (fun i hi => by have := yb i hi; simp; omega)
            have yc : Chg [] H W4 := ((hm2.ch.tr cW2).trans t2 (fun i hi => .inr (by have := hm2.bt i hi; omega))).trans c43 (by simp; omega)
            have hrl := hm2.rl
            refine hx_up (fun i st => ∃ env V cur, st = ⟨env, V, ms⟩ ∧ env.length = 108 ∧ Go.Ab.get env 8 = .ptr (some (m, 0)) ∧ Go.Ab.get env 11 = .ptr (some (X.length, 0)) ∧ Go.Ab.get env 12 = .int .i64 q ∧ Go.Ab.get env 82 = .int .i64 l.length ∧ Go.Ab.get env 83 = .int .i64 i ∧
              Chg (blk (.slice ar l.length cr sr)) W4 V ∧ RS V (.slice ar l.length cr sr) cur ∧ cur = (rest.take i).map (decO x.id q) ++ rest.drop i) l.length ?_ ?_ (by omega) ⟨_, W4, rest, rfl, rfl, rfl, rfl, rfl, rfl, rfl, .refl, yr, rfl⟩
            · rintro i st hi ⟨env, V, cur, rfl, hel, E8, E11, E12, E82, E83, cV, hrV, ecur⟩
              have hi' : (i : Int) < l.length := by omega
              have wi : IntKind.i64.wrap ((i : Int) + 1) = (i : Int) + 1 := wrap_i64 (by omega) (by omega)
              have hcl : cur.length = l.length := by rw [ecur]; simp; omega
              have hir : i < rest.length := by omega
              have hci : cur[i]'(by omega) = rest[i] := by
                subst ecur
                rw [List.getElem_append_right (by simp; omega)]
                simp [show i - min i rest.length = 0 by omega]
              have qi := hm2.rq rest[i] (List.getElem_mem _)
              have hj32 : (j : Int) ≤ 32 := by omega
              simp [E82, E83, hi', get_ne, get_self, hel]
              refine hx_drawn dc14_17 fun V1 d2 _ _ => ?_
              obtain ⟨b0, R, r, ear, esr, hR, eR, hcc⟩ : ∃ b0 R r, ar = some (b0, 0) ∧ sr = 6 ∧ V[b0]? = some (.cells R .rw) ∧ R = odsC cur ++ r ∧ ∀ k, cr = some k → cur.length ≤ k := by
                rcases hrV with ⟨_, _, _, e⟩ | ⟨_, _, _, _, e⟩ | ⟨b0, c0, R, r, e, h, hR, hc0⟩
                · rw [e] at hcl; simp at hcl; omega
                · rw [e] at hcl; simp at hcl; omega
                · injection e with z1 z2 z3 z4
                  exact ⟨b0, R, r, z1, z4, h, hR, fun k e => hc0 k (z3 ▸ e)⟩
              have hb0 : b0 ∈ blk (AV.slice ar l.length cr sr) := by rw [ear]; simp
              have hb1 := hBv _ hb0
              have hb2 := hbr _ hb0
              have bv : ∀ i, i ∈ blk (AV.slice ar l.length cr sr) → i = b0 := fun i hi => by rw [ear] at hi; simpa using hi
              have q8 := rowOf_rw (d2.get (cV.get y8 (fun h => by have := bv _ h; omega)) (by simp))
              have q11 := d2.row (cV.row (c43.row (t2.row (cW2.row (cW.row r11 (by simp)) (by simp)) (fun h => by have := hvt _ h; omega)) (by simp; omega)) (fun h => by have := bv _ h; omega)) (by simp)
              have qR := d2.get hR (by simp)
              have qR1 := rowOf_rw qR
              have qR2 : rowRw V1 0 b0 = some R := rowRw_rw qR
              have a0 : R[i * 6]? = some (.int .i64 rest[i].id) := by
                have := odsC_at (l := cur) (r := r) (i := i) (j := 0) (by omega) (by omega)
                rw [← eR, hci] at this
                exact this
              have a4 : R[i * 6 + 4]? = some (.int .i64 rest[i].q) := by
                have := odsC_at (l := cur) (r := r) (i := i) (j := 4) (by omega) (by omega)
                rw [← eR, hci] at this
                exact this
              have hRl : i * 6 + 4 + 1 ≤ R.length := by rw [eR]; simp; omega
              have hset := fun z => odsC_setq (l := cur) (r := r) (i := i) (z := z) (by omega)
              have wr : IntKind.i64.wrap (rest[i].q - q) = rest[i].q - q := wrap_i64 (by omega) (by omega)
              have hnext : ∀ y : Od, y = decO x.id q rest[i] → cur.set i y = (rest.map (decO x.id q)).take (i + 1) ++ rest.drop (i + 1) := by
                intro y hy
                have hd : rest.drop i = rest[i] :: rest.drop (i + 1) := List.drop_eq_getElem_cons hir
                rw [ecur, List.set_append_right _ _ (by simp; omega), ← List.map_take, List.take_succ_eq_append_getElem hir, List.map_append, List.append_assoc, hd, show i - ((rest.take i).map (decO x.id q)).length = 0 by simp; omega, List.set_cons_zero, hy]
                rfl
              rw [ear, esr] at q8
              by_cases hid : rest[i].id = x.id
              · simp [d14_17, E8, E11, E12, E82, E83, hel, get_ne, get_self, q8, q11, qR1, qR2, hi', hi, a0, a4, hid, wr, hRl, wi]
                refine ⟨_, _, rfl, by simp [hel], by simp [get_ne, E8], by simp [get_ne, E11], by simp [get_ne, E12], by simp [get_ne, E82], by simp [get_self, hel], ?_, ?_⟩
                · exact (cV.tr d2).tr' ((Chg.set _ _ _).mono (fun i hi => .inl (by simp at hi; rw [hi]; exact hb0)))
                · have hn := hnext { rest[i] with q := rest[i].q - q } (by simp [decO, hid])
                  have hs := hset (rest[i].q - q)
                  rw [hci, hn, ← eR] at hs
                  refine .inr (.inr ⟨b0, cr, _, r, ?_, by rw [List.getElem?_set_self (lt_of_get qR)], hs, fun k e => ?_⟩)
                  · rw [← hn, List.length_set, hcl, ear, esr]
                  · rw [← hn, List.length_set]; exact hcc k e
              · simp [d14_17, E8, E11, E12, E82, E83, hel, get_ne, get_self, q8, q11, qR1, qR2, hi', hi, a0, a4, hid, wr, hRl, wi]
                refine ⟨_, _, rfl, by simp [hel], by simp [get_ne, E8], by simp [get_ne, E11], by simp [get_ne, E12], by simp [get_ne, E82], by simp [get_self, hel], cV.tr d2, ?_⟩
                have hn := hnext rest[i] (by simp [decO, hid])
                rw [← hci, List.set_getElem_self] at hn
                rw [← hn]
                exact hrV.chg d2 (by simp)
            · rintro st ⟨env, V, cur, rfl, hel, E8, E11, E12, E82, E83, cV, hrV, ecur⟩
              simp [E82, E83, get_ne, get_self, hel]
              have n1 : ∀ i, i < H1.length → i ∉ blk (AV.slice ar l.length cr sr) := fun i hi h => by have := hbr _ h; omega
              have n2 : ∀ i, H2.length ≤ i → i ∉ blk (AV.slice ar l.length cr sr) := fun i hi h => by have := hBv _ h; omega
              have gd := cV.get (c43.get (t2.get (cW2.get hdW (by simp)) (nb _ (by omega))) (by simp; omega)) (n2 _ (by omega))
              obtain ⟨A, eA⟩ : ∃ A, Y[H4.length + 1]? = some A := by
                have hly : isLoop Y[H4.length + 1]? := hlY
                cases hY : Y[H4.length + 1]? with
                | none => rw [hY] at hly; exact hly.elim
                | some A => exact ⟨A, rfl⟩
              have gl := cV.get (c43.get (t2.get (cW2.get (cW.get eA (by simp)) (by simp)) (nb _ (by omega))) (by simp; omega)) (n2 _ (by omega))
              refine ⟨by rw [gl, eA], by rw [gd]; exact hdY.symm, rest.map (decO x.id q), ts ++ [trO o x q], left - q, vt', ?_⟩
              have ecur' : cur = rest.map (decO x.id q) := by
                rw [ecur, ← hrl, List.take_length, List.drop_length, List.append_nil]
              rw [ecur'] at hrV
              exact ⟨cV.get y3 (n1 _ (by omega)), cV.get y8 (n1 _ (by omega)), cV.get y9 (n1 _ (by omega)), cV.get y10 (n2 _ (by omega)), cV.get yw (n2 _ (by omega)), yo.chg cV (fun i hi => n2 _ (by have := hbw i hi; omega)), hrV,
                yt.chg cV (fun i hi => n2 _ (by have := yb i hi; omega)), yb, by simp [hrl], hm', by omega, fun y hy => by
                  obtain ⟨z, hz, rfl⟩ := List.mem_map.1 hy
                  have := hm2.rq z hz
                  by_cases hz2 : z.id = x.id
                  · simp [decO, hz2]; omega
                  · simp [decO, hz2]; omega, by have := hm2.tl; simp; omega, yc.trans cV (fun i hi => .inr (by have := hbr i hi; omega))⟩
      · rintro X ⟨rest, ts, left, vt, hm⟩ hd
        have e : (rest, ts, left) = M := by
          have := hm.m
          rw [List.drop_length] at this
          exact this
        rw [← e]
        simp
        refine hx_drawn dc14_20 fun X1 d1 _ _ => ?_
        have r8 := rowOf_rw (d1.get hm.h8 (by simp))
        have r9 := rowOf_rw (d1.get hm.h9 (by simp))
        have r10 := rowOf_rw (d1.get hm.h10 (by simp))
        have hd' := d1.get hd (by simp)
        obtain ⟨at_, ct, st, rfl⟩ := ST.form hm.ht.sl
        simp [d14_20, r8, r9, r10]
        have hdel := delete_ok (k := k + 6) (g := .func 30 [] []) (P := fun x => decide (x.q = 0)) (hm.hr.chg d1 (by simp)) (by simp) (by rw [hm.rl]; omega) (fun k' H' x hk' _ => by
          obtain ⟨k'', rfl⟩ : ∃ k'', k' = k'' + 1 := ⟨k' - 1, by omega⟩
          exact match1_ok) (by rw [hm.rl]; omega)
        refine Hx.mapp hdel ?_
        rintro ⟨vd, X2⟩ ⟨t1, t2, t3⟩
        simp only at t1 t2 t3
        have hbr' : ∀ i ∈ blk (AV.slice ar l.length cr sr), H1.length ≤ i := hbr
        have n9 : m + 1 ∉ blk (AV.slice ar l.length cr sr) := fun hi => by have := hbr' _ hi; omega
        have n10 : H2.length ∉ blk (AV.slice ar l.length cr sr) := fun hi => by have := hBv _ hi; omega
        have nd : H4.length ∉ blk (AV.slice ar l.length cr sr) := fun hi => by have := hBv _ hi; omega
        have r9' := t2.row r9 n9
        have r10' := t2.row r10 n10
        have hd2 := t2.get hd' nd
        obtain ⟨ad, cd, sd, rfl⟩ := t1.so.form
        simp [r9', r10', hd2]
        have hX1 : H4.length < X1.length := lt_of_get hd'
        refine ⟨_, _, ⟨rfl, rfl⟩, ?_, ?_, ?_, ?_⟩
        · refine (t1.chg (.set _ _ _) (fun i hi => ?_)).so
          rcases t3 i hi with h | h
          · have := hBv4 i h; simp; omega
          · simp; omega
        · refine (((hm.ht.keep d1).chg t2 (fun i hi h => ?_)).chg (.set _ _ _) (fun i hi => ?_)).sl
          · have := hBv4 i h; have := hm.bt i hi; omega
          · have := hm.bt i hi; simp; omega
        · exact ((hm.ch.tr d1).trans t2 (fun i hi => .inr (by have := hbr' i hi; have := cH1.1; omega))).set_new (by omega) _
        · intro i hi
          rcases t3 i hi with h | h
          · have := hbr' i h; have := cH1.1; omega
          · have := (hm.ch.tr d1).1; omega
      · rintro x X hx ⟨rfl, j, rest, ts, left, vt, hm, e⟩ hd
        rw [← e]
        simp
        refine hx_drawn dc14_20 fun X1 d1 _ _ => ?_
        have r8 := rowOf_rw (d1.get hm.h8 (by simp))
        have r9 := rowOf_rw (d1.get hm.h9 (by simp))
        have r10 := rowOf_rw (d1.get hm.h10 (by simp))
        have hd' := d1.get hd (by simp)
        obtain ⟨at_, ct, st, rfl⟩ := ST.form hm.ht.sl
        simp [d14_20, r8, r9, r10]
        have hdel := delete_ok (k := k + 6) (g := .func 30 [] []) (P := fun x => decide (x.q = 0)) (hm.hr.chg d1 (by simp)) (by simp) (by rw [hm.rl]; omega) (fun k' H' x hk' _ => by
          obtain ⟨k'', rfl⟩ : ∃ k'', k' = k'' + 1 := ⟨k' - 1, by omega⟩
          exact match1_ok) (by rw [hm.rl]; omega)
        refine Hx.mapp hdel ?_
        rintro ⟨vd, X2⟩ ⟨t1, t2, t3⟩
        simp only at t1 t2 t3
        have hbr' : ∀ i ∈ blk (AV.slice ar l.length cr sr), H1.length ≤ i := hbr
        have n9 : m + 1 ∉ blk (AV.slice ar l.length cr sr) := fun hi => by have := hbr' _ hi; omega
        have n10 : H2.length ∉ blk (AV.slice ar l.length cr sr) := fun hi => by have := hBv _ hi; omega
        have nd : H4.length ∉ blk (AV.slice ar l.length cr sr) := fun hi => by have := hBv _ hi; omega
        have r9' := t2.row r9 n9
        have r10' := t2.row r10 n10
        have hd2 := t2.get hd' nd
        obtain ⟨ad, cd, sd, rfl⟩ := t1.so.form
        simp [r9', r10', hd2]
        have hX1 : H4.length < X1.length := lt_of_get hd'
        refine ⟨_, _, ⟨rfl, rfl⟩, ?_, ?_, ?_, ?_⟩
        · refine (t1.chg (.set _ _ _) (fun i hi => ?_)).so
          rcases t3 i hi with h | h
          · have := hBv4 i h; simp; omega
          · simp; omega
        · refine (((hm.ht.keep d1).chg t2 (fun i hi h => ?_)).chg (.set _ _ _) (fun i hi => ?_)).sl
          · have := hBv4 i h; have := hm.bt i hi; omega
          · have := hm.bt i hi; simp; omega
        · exact ((hm.ch.tr d1).trans t2 (fun i hi => .inr (by have := hbr' i hi; have := cH1.1; omega))).set_new (by omega) _
        · intro i hi
          rcases t3 i hi with h | h
          · have := hbr' i h; have := cH1.1; omega
          · have := (hm.ch.tr d1).1; omega
end
end Go.Proofs.Ytjpmddjibeecbaa.T.Qu
end
section
/-! The order in which orders are met: the document's. -/
set_option linter.unusedVariables false
set_option linter.unusedSimpArgs false
set_option maxHeartbeats 4000000
set_option maxRecDepth 100000
namespace Go.Proofs.Ytjpmddjibeecbaa.T.Qu
open Go Go.Ab
def aheadB (a b : Od) : Bool := if a.p = b.p then decide (a.id < b.id) else (decide (b.p < a.p) == decide (a.side = 1))
/-- How many of the first are ahead. -/
def rpos (x : Od) : List Od → Nat
  | [] => 0
  | a :: l => if aheadB a x = true then rpos x l + 1 else 0
theorem rpos_le (x : Od) : ∀ l, rpos x l ≤ l.length
  | [] => Nat.le_refl _
  | a :: l => by
    have := rpos_le x l
    rw [rpos]
    split
    · simp; omega
    · exact Nat.zero_le _
theorem rpos_yes {x : Od} : ∀ {l : List Od} {i : Nat} (hi : i < l.length), i < rpos x l → aheadB l[i] x = true
  | a :: l, 0, hi, h => by
    rw [rpos] at h
    split at h
    · rename_i ha; exact ha
    · omega
  | a :: l, i + 1, hi, h => by
    have h' : i < rpos x l := by
      rw [rpos] at h
      split at h
      · omega
      · omega
    have := rpos_yes (l := l) (i := i) (by simpa using hi) h'
    simpa using this
theorem rpos_no {x : Od} : ∀ {l : List Od} (hi : rpos x l < l.length), aheadB l[rpos x l] x = false
  | a :: l, hi => by
    cases ha : aheadB a x with
    | false =>
      have : rpos x (a :: l) = 0 := by rw [rpos, ha]; rfl
      simp [this, ha]
    | true =>
      have e : rpos x (a :: l) = rpos x l + 1 := by rw [rpos, if_pos ha]
      have h2 : rpos x l < l.length := by simp [e] at hi; exact hi
      simp only [e, List.getElem_cons_succ]
      exact rpos_no h2
def insR (own : List Od) (o : Od) : List Od := own.take (rpos o own) ++ o :: own.drop (rpos o own)
def walkRN (l : List Od) (inst side : Int) : Nat → List Od
  | 0 => []
  | n + 1 => if (l.getD n dO).inst = inst ∧ (l.getD n dO).side = side then insR (walkRN l inst side n) (l.getD n dO) else walkRN l inst side n
theorem walkRN_len (l : List Od) (inst side : Int) : ∀ n, (walkRN l inst side n).length ≤ n
  | 0 => Nat.le_refl _
  | n + 1 => by
    have := walkRN_len l inst side n
    rw [walkRN]
    split
    · have := rpos_le (l.getD n dO) (walkRN l inst side n)
      simp [insR]; omega
    · omega
def walkRB (l : List Od) (inst side : Int) : List Od := if rightL l = true then walkRN l inst side l.length else []
section
variable {k : Nat} {H : AH}
theorem ahead_u {id acc inst side q p id' acc' inst' side' q' p' : Int} : callA ap (k + 1) (.func 41 [] []) [.agg [.int .i64 id, .int .i64 acc, .int .i64 inst, .int .i64 side, .int .i64 q, .int .i64 p], .agg [.int .i64 id', .int .i64 acc', .int .i64 inst', .int .i64 side', .int .i64 q', .int .i64 p']] 0 H =
    some (.bool (aheadB ⟨id, acc, inst, side, q, p⟩ ⟨id', acc', inst', side', q', p'⟩), H) := by
  refine Hx.eqn ?_
  rw [hx_gg fn41 rfl, b41]
  by_cases h : p = p'
  · subst h; simp [aheadB]
  · simp [aheadB, h, eqV]
theorem so_drop {v : AV} {l : List Od} (h : SO H v l) {i : Nat} (hi : i ≤ l.length) : ∃ v', aslice H 6 v (some (.int .i64 i)) none none = some v' ∧ SO H v' (l.drop i) := by
  obtain ⟨v', h1, h2, -, -⟩ := h.cut (low := some (.int .i64 (i : Int))) (high := none) (by omega) (lo := i) (hi := l.length) hi (by rw [odsC_len]; omega) (by simp [lowIs]) (fun n hn => by rw [odsC_len] at hn; simp [highIs]; omega)
  refine ⟨v', h1, ?_⟩
  rw [List.take_of_length_le (by rw [odsC_len]; omega), odsC_drop] at h2
  exact h2
theorem rwalk_ok {v : AV} {l : List Od} {inst side : Int} (h : SO H v l) (hl : l.length ≤ 1000000) (hk : l.length + 30 < k) :
    Hx (callA ap k (.func 35 [] []) [v, .int .i64 inst, .int .i64 side] 0 H) fun r => SO r.2 r.1 (walkRB l inst side) ∧ Chg [] H r.2 ∧ ∀ b ∈ blk r.1, H.length ≤ b := by
  obtain ⟨k, rfl⟩ : ∃ k', k = k' + 7 := ⟨k - 7, by omega⟩
  rw [hx_go fn35 rfl, b35]
  obtain ⟨a, c, s, rfl⟩ := h.form
  have hr := rorders_ok (k := k + 6) h hl (by omega)
  cases hrr : rightL l with
  | false =>
    simp [hr, hrr, walkRB]
    exact ⟨.nil _ _, .refl⟩
  | true =>
    have h32 := (rightL_mem hrr).2
    simp [hr, hrr]
    refine hx_up (fun i st => ∃ H' w, st = ⟨sp 72 [(0, .slice a l.length c s), (1, .int .i64 inst), (2, .int .i64 side), (7, w), (8, .int .i64 i)], H', []⟩ ∧ Chg [] H H' ∧ Mine H' 6 w (odsC (walkRN l inst side i)) ∧ ∀ b ∈ blk w, H.length ≤ b) l.length ?_ ?_ (by omega) ⟨H, .slice none 0 (some 0) 0, by simp [maskS], .refl, .nil _ _, by simp⟩
    · rintro i st hi ⟨H2, w, rfl, c2, ho, hnw⟩
      have hi' : (i : Int) < l.length := by omega
      have wi : IntKind.i64.wrap ((i : Int) + 1) = (i : Int) + 1 := wrap_i64 (by omega) (by omega)
      obtain ⟨b, o, c', r, e, g0, gg⟩ := SO.all (h.keep c2) (by intro h; simp [h] at hi)
      cases e
      obtain ⟨g1, g2, g3⟩ := gg i hi
      obtain ⟨x, hxx⟩ : ∃ x, x = l[i] := ⟨_, rfl⟩
      rw [← hxx] at g2 g3
      have hgd : l.getD i dO = x := by rw [getd hi, hxx]
      have g32 := g3 2 (by omega)
      have g33 := g3 3 (by omega)
      simp only [Od.cs, List.getElem?_cons_zero, List.getElem?_cons_succ] at g2 g32 g33
      obtain ⟨own, eo⟩ : ∃ own, own = walkRN l inst side i := ⟨_, rfl⟩
      have hlw := walkRN_len l inst side i
      rw [← eo] at ho hlw
      obtain ⟨aw, cw, sw, ew⟩ := SO.form ho.sl
      subst ew
      simp [hi', hi, g0, g1, g2, g32, g33]
      by_cases h1 : x.inst = inst
      · by_cases h2 : x.side = side
        · have hN : walkRN l inst side (i + 1) = insR own x := by rw [walkRN, hgd, if_pos ⟨h1, h2⟩, eo]
          rw [hN]
          simp [h1, h2, hi, hi', g0, g33]
          have hrp := rpos_le x own
          refine hx_up (fun j st => ∃ H', st = ⟨sp 72 [(0, .slice (some (b, o)) l.length c 6), (1, .int .i64 inst), (2, .int .i64 side), (7, .slice aw own.length cw sw), (8, .int .i64 i), (9, .int .i64 (j : Nat))], H', []⟩ ∧ Chg [] H2 H') (rpos x own) ?_ ?_ (by omega) ⟨H2, by simp [maskS], .refl⟩
          · rintro j st hj ⟨H3, rfl, c3⟩
            have hjo : j < own.length := by omega
            have hj' : (j : Int) < own.length := by omega
            have wj : IntKind.i64.wrap ((j : Int) + 1) = (j : Int) + 1 := wrap_i64 (by omega) (by omega)
            simp
            refine hx_drawn dc35_9 fun H4 c4 _ _ => ?_
            obtain ⟨b1, o1, c1, r1, e1, f0, ff⟩ := SO.all (ho.keep (c3.tr c4)).sl (by intro h; simp [h] at hjo)
            obtain ⟨f1, f2, -⟩ := ff j hjo
            injection e1 with z1 z2 z3 z4
            subst z1 z3 z4
            obtain ⟨y, hy⟩ : ∃ y, y = own[j] := ⟨_, rfl⟩
            have hah := rpos_yes hjo hj
            rw [← hy] at f2 hah
            have g04 := (c3.tr c4).row g0 (by simp)
            have hah' : aheadB ⟨y.id, y.acc, y.inst, y.side, y.q, y.p⟩ ⟨x.id, x.acc, inst, side, x.q, x.p⟩ = true := by rw [← h1, ← h2]; exact hah
            simp only [Od.cs] at f2
            simp [d35_9, hj', hjo, hi', hi, f0, f1, f2, g04, g1, g2, h1, h2, ahead_u, hah', maskS, wj]
            exact c3.tr c4
          · rintro st ⟨H3, rfl, c3⟩
            simp
            refine hx_drawn dc35_9 fun H4 c4 _ _ => ?_
            have c5 := c3.tr c4
            have g04 := c5.row g0 (by simp)
            have hrl : ((rpos x own : Nat) : Int) ≤ own.length := by omega
            obtain ⟨n1, hn1, sn1⟩ := so_take (ho.keep c5).sl hrp
            by_cases hjo : rpos x own < own.length
            · have hj' : ((rpos x own : Nat) : Int) < own.length := by omega
              obtain ⟨b1, o1, c1, r1, e1, f0, ff⟩ := SO.all (ho.keep c5).sl (by intro h; simp [h] at hjo)
              obtain ⟨f1, f2, -⟩ := ff _ hjo
              injection e1 with z1 z2 z3 z4
              subst z1 z3 z4
              obtain ⟨y, hy⟩ : ∃ y, y = own[rpos x own] := ⟨_, rfl⟩
              have hah := rpos_no hjo
              rw [← hy] at f2 hah
              have hah' : aheadB ⟨y.id, y.acc, y.inst, y.side, y.q, y.p⟩ ⟨x.id, x.acc, inst, side, x.q, x.p⟩ = false := by rw [← h1, ← h2]; exact hah
              simp only [Od.cs] at f2
              simp [d35_9, hj', hjo, hi', hi, f0, f1, f2, g04, g1, g2, h1, h2, ahead_u, hah', maskS, hn1]
              refine Hx.mapp ((Mine.nil (H := H4) (sz := 6) (some 0) 0).append sn1 (by omega) (by omega) (odsC_one _) (by simp [room]; omega)) ?_
              rintro ⟨m1, H5⟩ ⟨t1, t2, t3⟩
              simp only [List.nil_append] at t1 t2 t3
              have t3' : ∀ i ∈ blk m1, H4.length ≤ i := fun i hi => (t3 i hi).elim (fun h => by simp at h) id
              have d5 : Chg [] H4 H5 := by simpa using t2
              have g05 := d5.row g04 (by simp)
              obtain ⟨am, cm, sm, em⟩ := SO.form t1.sl
              rw [List.length_take, Nat.min_eq_left hrp] at em
              subst em
              obtain ⟨H6, e6⟩ : ∃ H6, H6 = H5 ++ [.cells x.cs .pl] := ⟨_, rfl⟩
              have c56 : Chg [] H5 H6 := by rw [e6]; exact .app _ _
              have slX : SL H6 6 (.slice (some (H5.length, 0)) 1 (some 1) 6) x.cs := .at_ H5.length 0 1 (some 1) x.cs _ (by omega) (by rw [e6]; simp [rowOf]) (by simp [Od.cs]) (by simp [Od.cs]) (by simp)
              simp only [Od.cs] at e6
              simp [hi', hi, g05, g1, g2]
              rw [← e6]
              refine Hx.mapp ((t1.keep c56).append slX (by omega) (by omega) (by simp [Od.cs]) (by simp [room, Od.cs]; omega)) ?_
              rintro ⟨m2, H7⟩ ⟨u1, u2, u3⟩
              simp only at u1 u2 u3
              rw [← odsC_snoc] at u1
              have u3' : ∀ i ∈ blk m2, H4.length ≤ i := fun i hi => (u3 i hi).elim (t3' i) (fun h => by have := c56.1; have := d5.1; omega)
              obtain ⟨am2, cm2, sm2, em2⟩ := SO.form u1.sl
              rw [List.length_append, List.length_take, Nat.min_eq_left hrp] at em2
              subst em2
              have c47 : Chg [] H4 H7 := (d5.tr c56).trans u2 (fun i hi => .inr (t3' i hi))
              have ho7 := (ho.keep c5).keep c47
              obtain ⟨n2, hn2, sn2⟩ := so_drop ho7.sl hrp
              simp [hn2]
              refine Hx.mapp (u1.append sn2 (by omega) (by omega) (odsC_one _) (by simp [room]; omega)) ?_
              rintro ⟨m3, H8⟩ ⟨w1, w2, w3⟩
              simp only at w1 w2
              rw [← odsC_app, show own.take (rpos x own) ++ [x] ++ own.drop (rpos x own) = insR own x by simp [insR]] at w1
              obtain ⟨am3, cm3, sm3, em3⟩ := SO.form w1.sl
              subst em3
              simp [maskS, wi]
              exact ⟨H8, _, ⟨rfl, rfl⟩, c2.tr (c5.tr (c47.trans w2 (fun i hi => .inr (u3' i hi)))), w1, fun b hb => by
                have := c2.1; have := c5.1; have := c47.1
                rcases w3 b hb with h | h
                · have := u3' b h; omega
                · omega⟩
            · have hj' : ¬ ((rpos x own : Nat) : Int) < own.length := by omega
              simp [d35_9, hj', hjo, hn1]
              refine Hx.mapp ((Mine.nil (H := H4) (sz := 6) (some 0) 0).append sn1 (by omega) (by omega) (odsC_one _) (by simp [room]; omega)) ?_
              rintro ⟨m1, H5⟩ ⟨t1, t2, t3⟩
              simp only [List.nil_append] at t1 t2 t3
              have t3' : ∀ i ∈ blk m1, H4.length ≤ i := fun i hi => (t3 i hi).elim (fun h => by simp at h) id
              have d5 : Chg [] H4 H5 := by simpa using t2
              have g05 := d5.row g04 (by simp)
              obtain ⟨am, cm, sm, em⟩ := SO.form t1.sl
              rw [List.length_take, Nat.min_eq_left hrp] at em
              subst em
              obtain ⟨H6, e6⟩ : ∃ H6, H6 = H5 ++ [.cells x.cs .pl] := ⟨_, rfl⟩
              have c56 : Chg [] H5 H6 := by rw [e6]; exact .app _ _
              have slX : SL H6 6 (.slice (some (H5.length, 0)) 1 (some 1) 6) x.cs := .at_ H5.length 0 1 (some 1) x.cs _ (by omega) (by rw [e6]; simp [rowOf]) (by simp [Od.cs]) (by simp [Od.cs]) (by simp)
              simp only [Od.cs] at e6
              simp [hi', hi, g05, g1, g2]
              rw [← e6]
              refine Hx.mapp ((t1.keep c56).append slX (by omega) (by omega) (by simp [Od.cs]) (by simp [room, Od.cs]; omega)) ?_
              rintro ⟨m2, H7⟩ ⟨u1, u2, u3⟩
              simp only at u1 u2 u3
              rw [← odsC_snoc] at u1
              have u3' : ∀ i ∈ blk m2, H4.length ≤ i := fun i hi => (u3 i hi).elim (t3' i) (fun h => by have := c56.1; have := d5.1; omega)
              obtain ⟨am2, cm2, sm2, em2⟩ := SO.form u1.sl
              rw [List.length_append, List.length_take, Nat.min_eq_left hrp] at em2
              subst em2
              have c47 : Chg [] H4 H7 := (d5.tr c56).trans u2 (fun i hi => .inr (t3' i hi))
              have ho7 := (ho.keep c5).keep c47
              obtain ⟨n2, hn2, sn2⟩ := so_drop ho7.sl hrp
              simp [hn2]
              refine Hx.mapp (u1.append sn2 (by omega) (by omega) (odsC_one _) (by simp [room]; omega)) ?_
              rintro ⟨m3, H8⟩ ⟨w1, w2, w3⟩
              simp only at w1 w2
              rw [← odsC_app, show own.take (rpos x own) ++ [x] ++ own.drop (rpos x own) = insR own x by simp [insR]] at w1
              obtain ⟨am3, cm3, sm3, em3⟩ := SO.form w1.sl
              subst em3
              simp [maskS, wi]
              exact ⟨H8, _, ⟨rfl, rfl⟩, c2.tr (c5.tr (c47.trans w2 (fun i hi => .inr (u3' i hi)))), w1, fun b hb => by
                have := c2.1; have := c5.1; have := c47.1
                rcases w3 b hb with h | h
                · have := u3' b h; omega
                · omega⟩
        · have hN : walkRN l inst side (i + 1) = own := by rw [walkRN, hgd, if_neg (fun h => h2 h.2), eo]
          simp [h1, h2, maskS, wi, hi, hi', g0, g33]
          exact ⟨H2, _, ⟨rfl, rfl⟩, c2, hN ▸ ho, hnw⟩
      · have hN : walkRN l inst side (i + 1) = own := by rw [walkRN, hgd, if_neg (fun h => h1 h.1), eo]
        simp [h1, maskS, wi]
        exact ⟨H2, _, ⟨rfl, rfl⟩, c2, hN ▸ ho, hnw⟩
    · rintro st ⟨H2, w, rfl, c2, ho, hnw⟩
      obtain ⟨aw, cw, sw, ew⟩ := SO.form ho.sl
      subst ew
      simp [walkRB, hrr]
      exact ⟨ho.sl, c2, hnw⟩
end
end Go.Proofs.Ytjpmddjibeecbaa.T.Qu
end
section
/-! Who trades with whom: the document's Match. -/
set_option linter.unusedVariables false
set_option linter.unusedSimpArgs false
set_option maxHeartbeats 4000000
set_option maxRecDepth 100000
namespace Go.Proofs.Ytjpmddjibeecbaa.T.Qu
open Go Go.Ab
def matchR (l : List Od) (o : Od) : List Od × List Tr × Int × Int := if rightL l && rightO o then
    (((mtch o (walkRB l o.inst (3 - o.side)) (l, [], o.q)).1.filter fun x => decide (0 < x.q)), (mtch o (walkRB l o.inst (3 - o.side)) (l, [], o.q)).2.1, (mtch o (walkRB l o.inst (3 - o.side)) (l, [], o.q)).2.2, 0)
  else ([], [], 0, 1)
theorem walkRN_mem {l : List Od} {inst side : Int} {x : Od} : ∀ n, n ≤ l.length → x ∈ walkRN l inst side n → x ∈ l
  | 0, _, h => by simp [walkRN] at h
  | n + 1, hn, h => by
    rw [walkRN] at h
    split at h
    · rw [insR] at h
      rcases List.mem_append.1 h with h | h
      · exact walkRN_mem n (by omega) (List.mem_of_mem_take h)
      · rcases List.mem_cons.1 h with rfl | h
        · rw [getd (by omega)]; exact List.getElem_mem _
        · exact walkRN_mem n (by omega) (List.mem_of_mem_drop h)
    · exact walkRN_mem n (by omega) h
theorem get_mask : ∀ {m : List Bool} {e : List AV} {n : Nat}, m[n]? = some true → Go.Ab.get (mask m e) n = Go.Ab.get e n
  | true :: m, v :: e, 0, h => rfl
  | false :: m, v :: e, 0, h => by simp at h
  | true :: m, v :: e, n + 1, h => get_mask (m := m) (e := e) (n := n) (by simpa using h)
  | false :: m, v :: e, n + 1, h => get_mask (m := m) (e := e) (n := n) (by simpa using h)
  | [], e, n, h => by simp at h
  | true :: m, [], n, h => rfl
  | false :: m, [], n, h => rfl
theorem len_mask : ∀ {m : List Bool} {e : List AV}, (mask m e).length = e.length
  | true :: m, v :: e => by simp only [mask, List.length_cons, len_mask]
  | false :: m, v :: e => by simp only [mask, List.length_cons, len_mask]
  | [], e => by simp only [mask]
  | true :: m, [] => by simp only [mask]
  | false :: m, [] => by simp only [mask]
structure MR (H : AH) (o : Od) (own : List Od) (M : List Od × List Tr × Int) (p3 : Nat) (vw vr : AV) (n B j : Nat) (rest : List Od) (ts : List Tr) (left : Int) (vt : AV) (X : AH) : Prop where
  h3 : X[p3]? = some (.cells o.cs .rw)
  hw : SO X vw own
  hr : RS X vr rest
  ht : Mine X 5 vt (trsC ts)
  bt : ∀ i ∈ blk vt, B ≤ i
  rl : rest.length = n
  m : mtch o (own.drop j) (rest, ts, left) = M
  lq : 0 ≤ left ∧ left ≤ 1000000000
  rq : ∀ x ∈ rest, -(1000000000 * (j : Int)) ≤ x.q ∧ x.q ≤ 1000000000
  tl : ts.length ≤ j
  ch : Chg [] H X
  ln : B ≤ X.length
theorem MR.keep {H : AH} {o : Od} {own : List Od} {M : List Od × List Tr × Int} {p3 : Nat} {vw vr : AV} {n B j : Nat} {rest : List Od} {ts : List Tr} {left : Int} {vt : AV} {X Y : AH}
    (h : MR H o own M p3 vw vr n B j rest ts left vt X) (c : Chg [] X Y) : MR H o own M p3 vw vr n B j rest ts left vt Y :=
  ⟨c.get h.h3 (by simp), h.hw.keep c, h.hr.chg c (by simp), h.ht.keep c, h.bt, h.rl, h.m, h.lq, h.rq, h.tl, h.ch.tr c, Nat.le_trans h.ln c.1⟩
section
variable {k : Nat} {H : AH}
theorem rmatch_ok {v : AV} {l : List Od} {o : Od} (h : SO H v l) (hl : l.length ≤ 1000000) (hk : l.length + 60 < k) : Hx (callA ap k (.func 21 [] []) [v, .agg o.cs] 0 H) fun r => ∃ vr vt, r.1 = .tuple [vr, vt, .int .i64 (matchR l o).2.2.1, .int .i64 (matchR l o).2.2.2] ∧ Mine r.2 6 vr (odsC (matchR l o).1) ∧ ST r.2 vt (matchR l o).2.1 ∧ Chg [] H r.2 ∧ ∀ b ∈ blk vr, H.length ≤ b := by
  obtain ⟨k, rfl⟩ : ∃ k', k = k' + 9 := ⟨k - 9, by omega⟩
  rw [hx_go fn21 rfl, b21]
  obtain ⟨a, c, s, rfl⟩ := h.form
  obtain ⟨G, eG⟩ : ∃ G, G = H ++ [.cells o.cs .rw] := ⟨_, rfl⟩
  have cG : Chg [] H G := by rw [eG]; exact .app _ _
  have hlen : H.length < G.length := by rw [eG]; simp
  have gG : G[H.length]? = some (.cells o.cs .rw) := by rw [eG]; simp
  have rG : rowOf G H.length = some o.cs := rowOf_rw gG
  have hr := rorders_ok (k := k + 8) (h.keep cG) hl (by omega)
  have ho := rorder_ok (k := k + 6) (H := G) (o := o)
  simp only [Od.cs] at eG rG ho
  cases hrr : rightL l with
  | false =>
    have hM : matchR l o = ([], [], 0, 1) := by simp [matchR, hrr]
    rw [hM]
    simp [Od.cs]
    rw [← eG]
    simp [hr, hrr]
    exact ⟨_, _, ⟨rfl, rfl⟩, .nil _ _, .nil _ _, cG, by simp⟩
  | true =>
    cases hoo : rightO o with
    | false =>
      have hM : matchR l o = ([], [], 0, 1) := by simp [matchR, hrr, hoo]
      rw [hM]
      simp [Od.cs]
      rw [← eG]
      simp [hr, hrr, rG, ho, hoo]
      exact ⟨_, _, ⟨rfl, rfl⟩, .nil _ _, .nil _ _, cG, by simp⟩
    | true =>
      obtain ⟨hmem, h32⟩ := rightL_mem hrr
      obtain ⟨q1, q2, q3⟩ := right_q hoo
      obtain ⟨own, eo⟩ : ∃ own, own = walkRB l o.inst (3 - o.side) := ⟨_, rfl⟩
      obtain ⟨M, eM⟩ : ∃ M, M = mtch o own (l, [], o.q) := ⟨_, rfl⟩
      have hM : matchR l o = ((M.1.filter fun x => decide (0 < x.q)), M.2.1, M.2.2, 0) := by
        rw [eM, eo]; simp [matchR, hrr, hoo]
      rw [hM]
      simp [Od.cs]
      rw [← eG]
      simp [hr, hrr, rG, ho, hoo]
      refine hx_drawn dc21_3 fun H1 c1 hl1 hd1 => ?_
      have hl1' : H1.length = G.length + 7 := hl1
      have e0 := hd1 0 (by decide)
      rw [Nat.add_zero] at e0
      have z0 : isDeadB H1[G.length]? = true := by rw [e0]; rfl
      have rG1 := c1.row rG (by simp)
      obtain ⟨H2, e2⟩ : ∃ H2, H2 = H1.set G.length (.cells [] .pl) := ⟨_, rfl⟩
      have c12 : Chg [] G H2 := by rw [e2]; exact c1.set_new (Nat.le_refl _) _
      have hap := append0 (H := H2) (b := G.length) (x := .slice a l.length c s) (l := l) (by rw [e2]; simp [rowOf, lt_of_get e0]) (h.keep (cG.tr c12)) hl
      obtain ⟨vr, H3, hap', hvr, c23, hbr⟩ : ∃ vr H3, aappend 0 H2 6 48 (.slice (some (G.length, 0)) 0 (some 0) 6) (.slice a l.length c s) = some (vr, H3) ∧ RS H3 vr l ∧ Chg [] H2 H3 ∧ ∀ b ∈ blk vr, G.length ≤ b := by
        by_cases h0 : l = []
        · subst h0
          rw [if_pos rfl] at hap
          exact ⟨_, _, hap, .inr (.inl ⟨G.length, [], rfl, by rw [e2]; simp [rowOf, lt_of_get e0], rfl⟩), .refl, by simp⟩
        · rw [if_neg h0] at hap
          refine ⟨_, _, hap, .inr (.inr ⟨_, none, odsC l, [], rfl, by simp, by simp, by simp⟩), .app _ _, by rw [e2]; simp; omega⟩
      have rG2 := c12.row rG (by simp)
      have rG3 := c23.row rG2 (by simp)
      have cH3 : Chg [] H H3 := cG.tr (c12.tr c23)
      obtain ⟨ar, cr, sr, ev⟩ := hvr.so.form
      rw [ev] at hap'
      have w3 : IntKind.i64.wrap (3 - o.side) = 3 - o.side := by rcases q3 with q | q <;> rw [q] <;> decide
      have hwalk := rwalk_ok (k := k + 8) (inst := o.inst) (side := 3 - o.side) (h.keep cH3) hl (by omega)
      simp [d21_3, z0, ← e2, rG1, rG2, rG3, hap', w3]
      refine Hx.mapp hwalk ?_
      rintro ⟨vw, H4⟩ ⟨hw, c4, hbw⟩
      simp only at hw c4 hbw
      rw [← eo] at hw
      obtain ⟨aw, cw, sw, ew⟩ := SO.form hw
      subst ew
      simp
      have c3H4 : Chg [] H H4 := cH3.tr c4
      have hown : own.length ≤ 32 := by
        rw [eo, walkRB, if_pos hrr]
        exact Nat.le_trans (walkRN_len _ _ _ _) h32
      have hBw : ∀ i ∈ blk (AV.slice aw own.length cw sw), H3.length ≤ i := hbw
      have hBv : ∀ i ∈ blk (AV.slice ar l.length cr sr), i < H3.length ∧ G.length ≤ i := fun i hi => by
        rw [← ev] at hi
        exact ⟨hvr.so.lt i hi, hbr i hi⟩
      rw [ev] at hvr
      have g34 : H4[H.length]? = some (.cells o.cs .rw) := c4.get (c23.get (c12.get gG (by simp)) (by simp)) (by simp)
      have hBH : H3.length ≤ H4.length := c4.1
      refine Hx.mono (Q := fun r => ∃ env X rest ts left vt, r = (.exit 0, ⟨env, X, []⟩) ∧ env.length = 174 ∧ Go.Ab.get env 8 = .slice ar l.length cr sr ∧ Go.Ab.get env 9 = .int .i64 left ∧ Go.Ab.get env 10 = vt ∧ (∃ j, MR H o own M H.length (.slice aw own.length cw sw) (.slice ar l.length cr sr) l.length H4.length j rest ts left vt X) ∧ (rest, ts, left) = M)
        (hx_up (fun i st => ∃ X rest ts left vt, st = ⟨sp 174 [(3, .ptr (some (H.length, 0))), (8, .slice ar l.length cr sr), (9, .int .i64 left), (10, vt), (11, .slice aw own.length cw sw), (12, .int .i64 i)], X, []⟩ ∧ MR H o own M H.length (.slice aw own.length cw sw) (.slice ar l.length cr sr) l.length H4.length i rest ts left vt X)
          own.length ?_ ?_ (by omega) ⟨H4, l, [], o.q, .slice none 0 (some 0) 0, by simp [maskS], ⟨g34, hw, hvr.chg c4 (by simp), .nil _ _, by simp, rfl, by rw [eM]; rfl, by omega, fun x hx => by have := right_q (hmem x hx); omega, by simp, c3H4, Nat.le_refl _⟩⟩) ?_
      · rintro i st hi ⟨X, rest, ts, left, vt, rfl, hm⟩
        have hi' : (i : Int) < own.length := by omega
        obtain ⟨x, hx⟩ : ∃ x, x = own[i] := ⟨_, rfl⟩
        have hxl : x ∈ l := walkRN_mem (inst := o.inst) (side := 3 - o.side) l.length (Nat.le_refl _) (by
          rw [hx, show walkRN l o.inst (3 - o.side) l.length = own by rw [eo, walkRB, if_pos hrr]]; exact List.getElem_mem _)
        have hxq := right_q (hmem x hxl)
        have hdrop : own.drop i = x :: own.drop (i + 1) := by rw [hx]; exact List.drop_eq_getElem_cons hi
        have wi : IntKind.i64.wrap ((i : Int) + 1) = (i : Int) + 1 := wrap_i64 (by omega) (by omega)
        have lq := hm.lq
        by_cases h0 : left = 0
        · have e : (rest, ts, left) = M := by
            have := hm.m
            rw [hdrop, mtch, if_pos (.inl h0)] at this
            exact this
          have h0' : ¬ 0 < left := by omega
          simp [hi', hi, h0']
          exact ⟨_, _, ⟨rfl, rfl⟩, rfl, rfl, rest, ts, left, rfl, ⟨_, hm⟩, e⟩
        have h0' : 0 < left := by omega
        simp [hi', hi, h0']
        refine hx_drawn dc21_9 fun X1 d1 _ _ => ?_
        have hm1 := hm.keep d1
        have r3 := rowOf_rw hm1.h3
        obtain ⟨b, ob, c', r, e, g0, gg⟩ := SO.all hm1.hw (by intro h; simp [h] at hi)
        obtain ⟨g1, g2, g3⟩ := gg i hi
        rw [← hx] at g2 g3
        injection e with z1 z2 z3 z4
        subst z1 z3 z4
        have g30 := g3 0 (by omega)
        have g31 := g3 1 (by omega)
        have g34' := g3 4 (by omega)
        have g35 := g3 5 (by omega)
        simp only [Od.cs, List.getElem?_cons_zero, List.getElem?_cons_succ, Nat.add_zero] at g2 g30 g31 g34' g35 r3
        cases hre : reachB o x.p with
        | false =>
          have e : (rest, ts, left) = M := by
            have := hm.m
            rw [hdrop, mtch, if_pos (.inr hre)] at this
            exact this
          rcases q3 with hs | hs
          · have hp : ¬ x.p ≤ o.p := by simpa [reachB, hs] using hre
            have hp' : o.p < x.p := by omega
            simp [d21_9, hi', hi, g0, g1, g35, r3, hs, hp, hp']
            exact ⟨_, _, ⟨rfl, rfl⟩, rfl, rfl, rest, ts, left, rfl, ⟨_, hm1⟩, e⟩
          · have hp : ¬ o.p ≤ x.p := by simpa [reachB, hs] using hre
            have hp' : x.p < o.p := by omega
            simp [d21_9, hi', hi, g0, g1, g35, r3, hs, hp, hp']
            exact ⟨_, _, ⟨rfl, rfl⟩, rfl, rfl, rest, ts, left, rfl, ⟨_, hm1⟩, e⟩
        | true =>
          have hnot : ¬ (left = 0 ∨ reachB o x.p = false) := by simp [h0, hre]
          rcases q3 with hs | hs
          · have hp : x.p ≤ o.p := by simpa [reachB, hs] using hre
            have hp'0 : ¬ o.p < x.p := by omega
            simp [d21_9, hi', hi, g0, g1, g35, r3, hs, hp, hp'0]
            refine hx_drawn dc21_10 fun X2 d2 _ _ => ?_
            have hm2 := hm1.keep d2
            have g02 := d2.row g0 (by simp)
            have r32 := d2.row r3 (by simp)
            by_cases ha : x.acc = o.acc
            · have hm' := hm.m
              rw [hdrop, mtch, if_neg hnot, if_pos ha] at hm'
              simp [d21_10, hi', hi, g02, g1, g31, r32, ha, maskS, wi]
              exact ⟨X2, rest, ts, left, vt, ⟨⟨rfl, rfl⟩, rfl⟩, { hm2 with m := hm', rq := fun x hx => by have := hm2.rq x hx; omega, tl := by have := hm2.tl; omega }⟩
            have hm' := hm.m
            rw [hdrop, mtch, if_neg hnot, if_neg ha] at hm'
            obtain ⟨q, hq⟩ : ∃ q, q = min left x.q := ⟨_, rfl⟩
            rw [← hq] at hm'
            have hq2 : 0 ≤ q ∧ q ≤ left ∧ q ≤ x.q := by omega
            have hmin : amm1 false .i64 left [.int .i64 x.q] = some (.int .i64 q) := by
              rw [hq]
              by_cases h : x.q < left
              · simp [amm1, h]; omega
              · simp [amm1, h]; omega
            simp [d21_10, hi', hi, g02, g1, g31, g34', r32, ha, amm, hmin]
            refine hx_drawn dc21_12 fun X3 d3 hl3 hd3 => ?_
            have hm3 := hm2.keep d3
            have g03 := d3.row g02 (by simp)
            have r33 := d3.row r32 (by simp)
            obtain ⟨mm, hmm⟩ : ∃ mm, mm = X2.length + 16 := ⟨_, rfl⟩
            have e16 := hd3 16 (by decide)
            rw [← hmm] at e16
            have z16 : isDeadB X3[mm]? = true := by rw [e16]; rfl
            have lb2 := rowOf_lt g02
            have lH2 := rowOf_lt r32
            have s1 : ∀ (h : AH) X, rowOf (h.set mm X) b = rowOf h b := fun h X => by simp [rowOf, List.getElem?_set_ne (show mm ≠ b by omega)]
            have s2 : ∀ (h : AH) X, rowOf (h.set mm X) H.length = rowOf h H.length := fun h X => by simp [rowOf, List.getElem?_set_ne (show mm ≠ H.length by omega)]
            have s3 : ∀ l, rowRw (X3.set mm (.cells l .rw)) 0 mm = some l := fun l => rowRw_self (lt_of_get e16)
            simp [d21_12, hi', hi, g03, g1, g31, g35, r33, z16, ← hmm, s1, s2, s3, hs]
            obtain ⟨W, eW⟩ : ∃ W, W = X3.set mm (.cells [.int .i64 o.acc, .int .i64 x.acc, .int .i64 o.inst, .int .i64 q, .int .i64 x.p] .rw) := ⟨_, rfl⟩
            have cW : Chg [] X2 W := by rw [eW]; exact d3.set_new (by omega) _
            have gT : W[mm]? = some (.cells (trO o x q).cs .rw) := by rw [eW, List.getElem?_set_self (lt_of_get e16)]; simp [trO, hs, Tr.cs]
            rw [← eW]
            have gTb : W[mm]? = some (.cells (trO o x q).cs .rw) := gT
            have hmW := hm2.keep cW
            have g0W := cW.row g02 (by simp)
            have rT := rowOf_rw gT
            simp only [Tr.cs, trO, hs, show ¬ ((1 : Int) = 2) by decide, if_true, if_false] at rT
            obtain ⟨W2, eW2⟩ : ∃ W2, W2 = W ++ [.cells (trO o x q).cs .pl] := ⟨_, rfl⟩
            have cW2 : Chg [] W W2 := by rw [eW2]; exact .app _ _
            have slT : SL W2 5 (.slice (some (W.length, 0)) 1 (some 1) 5) (trO o x q).cs := .at_ W.length 0 1 (some 1) (trO o x q).cs _ (by omega) (by rw [eW2]; simp [rowOf]) (by simp [Tr.cs]) (by simp [Tr.cs]) (by simp)
            have happ := (hmW.ht.keep cW2).append slT (by_ := 40) (by omega) (by omega) (by simp [Tr.cs]) (by have := hmW.tl; simp [room, Tr.cs]; omega)
            simp only [Tr.cs, trO, hs, show ¬ ((1 : Int) = 2) by decide, if_true, if_false] at eW2
            simp [rT]
            obtain ⟨av, cv, sv, evt⟩ := ST.form hmW.ht.sl
            rw [evt] at happ
            simp [← eW2, evt]
            refine Hx.mapp happ ?_
            rw [← evt]
            rintro ⟨vt', W3⟩ ⟨t1, t2, t3⟩
            simp only at t1 t2 t3
            rw [← trsC_snoc] at t1
            obtain ⟨av', cv', sv', evt'⟩ := ST.form t1.sl
            have wq : IntKind.i64.wrap (left - q) = left - q := wrap_i64 (by omega) (by omega)
            rw [evt']
            simp [wq]
            have lW2 : X2.length ≤ W2.length := (cW.tr cW2).1
            have lX : H4.length ≤ X2.length := by
              have := d1.1; have := d2.1; have := hm.ln; omega
            have n1 : ∀ i, i < H4.length → i ∉ blk vt := fun i hi h => by have := hmW.bt i h; omega
            have y3 := t2.get (cW2.get hmW.h3 (by simp)) (n1 _ (lt_of_get g34))
            have yr := (hmW.hr.chg cW2 (by simp)).chg t2 (fun i hi => n1 i (by have := (hBv i hi).1; omega))
            have hwlt : b < H4.length := hw.lt b (by simp)
            have yw := SL.chg (hmW.hw.keep cW2) t2 (fun i hi => n1 i (hw.lt i hi))
            have y0 := t2.row (cW2.row g0W (by simp)) (n1 _ hwlt)
            have yb : ∀ i ∈ blk vt', H4.length ≤ i := fun i hi => by
              rcases t3 i hi with h | h
              · exact hmW.bt i h
              · omega
            have yc : Chg [] H W3 := (hmW.ch.tr cW2).trans t2 (fun i hi => .inr (by have := hmW.bt i hi; have := c3H4.1; omega))
            have hrl := hmW.rl
            refine hx_up (fun n st => ∃ V cur, st = ⟨sp 174 [(3, .ptr (some (H.length, 0))), (8, .slice ar l.length cr sr), (9, .int .i64 (left - q)), (10, vt'), (11, .slice (some (b, ob)) own.length cw 6), (12, .int .i64 i), (13, .int .i64 q), (15, .int .i64 n)], V, []⟩ ∧
              Chg (blk (.slice ar l.length cr sr)) W3 V ∧ RS V (.slice ar l.length cr sr) cur ∧ cur = (rest.take n).map (decO x.id q) ++ rest.drop n) l.length ?_ ?_ (by omega) ⟨W3, rest, by simp [maskS, evt'], .refl, yr, rfl⟩
            · rintro n st hn ⟨V, cur, rfl, cV, hrV, ecur⟩
              have hn' : (n : Int) < l.length := by omega
              have wn : IntKind.i64.wrap ((n : Int) + 1) = (n : Int) + 1 := wrap_i64 (by omega) (by omega)
              have hcl : cur.length = l.length := by rw [ecur]; simp; omega
              have hir : n < rest.length := by omega
              have hci : cur[n]'(by omega) = rest[n] := by
                subst ecur
                rw [List.getElem_append_right (by simp; omega)]
                simp [show n - min n rest.length = 0 by omega]
              have qi := hm.rq rest[n] (List.getElem_mem _)
              have hi32 : (i : Int) ≤ 32 := by omega
              simp [hn', hn]
              refine hx_drawn dc21_20 fun V1 dV _ _ => ?_
              obtain ⟨b0, R, r', ear, esr, hR, eR, hcc⟩ : ∃ b0 R r, ar = some (b0, 0) ∧ sr = 6 ∧ V[b0]? = some (.cells R .rw) ∧ R = odsC cur ++ r ∧ ∀ k, cr = some k → cur.length ≤ k := by
                rcases hrV with ⟨_, _, _, e⟩ | ⟨_, _, _, _, e⟩ | ⟨b0, c0, R, r, e, h, hR, hc0⟩
                · rw [e] at hcl; simp at hcl; omega
                · rw [e] at hcl; simp at hcl; omega
                · injection e with z1 z2 z3 z4
                  exact ⟨b0, R, r, z1, z4, h, hR, fun k e => hc0 k (z3 ▸ e)⟩
              have hb0 : b0 ∈ blk (AV.slice ar l.length cr sr) := by rw [ear]; simp
              have hb1 := hBv _ hb0
              have hbb : b ≠ b0 := by have := hBw b (by simp); omega
              have bv : ∀ i, i ∈ blk (AV.slice ar l.length cr sr) → i = b0 := fun i hi => by rw [ear] at hi; simpa using hi
              have q0 := dV.row (cV.row y0 (fun h => hbb (bv _ h))) (by simp)
              have qR := dV.get hR (by simp)
              have qR1 := rowOf_rw qR
              have qR2 : rowRw V1 0 b0 = some R := rowRw_rw qR
              have a0 : R[n * 6]? = some (.int .i64 rest[n].id) := by
                have := odsC_at (l := cur) (r := r') (i := n) (j := 0) (by omega) (by omega)
                rw [← eR, hci] at this
                exact this
              have a4 : R[n * 6 + 4]? = some (.int .i64 rest[n].q) := by
                have := odsC_at (l := cur) (r := r') (i := n) (j := 4) (by omega) (by omega)
                rw [← eR, hci] at this
                exact this
              have hRl : n * 6 + 4 + 1 ≤ R.length := by rw [eR]; simp; omega
              have hset := fun z => odsC_setq (l := cur) (r := r') (i := n) (z := z) (by omega)
              have wr : IntKind.i64.wrap (rest[n].q - q) = rest[n].q - q := wrap_i64 (by omega) (by omega)
              have hnext : ∀ y : Od, y = decO x.id q rest[n] → cur.set n y = (rest.map (decO x.id q)).take (n + 1) ++ rest.drop (n + 1) := by
                intro y hy
                have hd : rest.drop n = rest[n] :: rest.drop (n + 1) := List.drop_eq_getElem_cons hir
                rw [ecur, List.set_append_right _ _ (by simp; omega), ← List.map_take, List.take_succ_eq_append_getElem hir, List.map_append, List.append_assoc, hd, show n - ((rest.take n).map (decO x.id q)).length = 0 by simp; omega, List.set_cons_zero, hy]
                rfl
              by_cases hid : rest[n].id = x.id
              · simp [d21_20, ear, esr, q0, qR1, qR2, hi', hi, hn', hn, g1, g30, a0, a4, hid, wr, hRl, wn, maskS]
                have cV' : Chg [b0] W3 V := by rw [ear] at cV; simpa using cV
                refine ⟨(cV'.tr dV).tr' (.set _ _ _), ?_⟩
                have hn2 := hnext { rest[n] with q := rest[n].q - q } (by simp [decO, hid])
                have hs2 := hset (rest[n].q - q)
                rw [hci, hn2, ← eR] at hs2
                refine .inr (.inr ⟨b0, cr, _, r', ?_, by rw [List.getElem?_set_self (lt_of_get qR)], hs2, fun k e => ?_⟩)
                · rw [← hn2, List.length_set, hcl]
                · rw [← hn2, List.length_set]; exact hcc k e
              · simp [d21_20, ear, esr, q0, qR1, qR2, hi', hi, hn', hn, g1, g30, a0, a4, hid, wr, hRl, wn, maskS]
                have cV' : Chg [b0] W3 V := by rw [ear] at cV; simpa using cV
                refine ⟨cV'.tr dV, ?_⟩
                have hn2 := hnext rest[n] (by simp [decO, hid])
                rw [← hci, List.set_getElem_self] at hn2
                rw [← hn2]
                rw [ear, esr] at hrV
                exact hrV.chg dV (by simp)
            · rintro st ⟨V, cur, rfl, cV, hrV, ecur⟩
              simp [maskS, wi]
              have ecur' : cur = rest.map (decO x.id q) := by
                rw [ecur, ← hrl, List.take_length, List.drop_length, List.append_nil]
              rw [ecur'] at hrV
              have n2 : ∀ i, H3.length ≤ i → i ∉ blk (AV.slice ar l.length cr sr) := fun i hi h => by have := (hBv _ h).1; omega
              have n3 : H.length ∉ blk (AV.slice ar l.length cr sr) := fun h => by have := (hBv _ h).2; omega
              refine ⟨V, rest.map (decO x.id q), ts ++ [trO o x q], left - q, vt', ⟨⟨rfl, rfl⟩, rfl⟩, cV.get y3 n3, yw.chg cV (fun i hi => n2 i (hBw i hi)), hrV, t1.chg cV (fun i hi => n2 i (by have := yb i hi; omega)), yb, by simp [hrl], hm', by omega, fun y hy => ?_, by have := hmW.tl; simp; omega,
                yc.trans cV (fun i hi => .inr (by have := (hBv i hi).2; omega)), by have := cV.1; have := t2.1; omega⟩
              obtain ⟨z, hz, rfl⟩ := List.mem_map.1 hy
              have := hm.rq z hz
              by_cases hz2 : z.id = x.id
              · simp [decO, hz2]; omega
              · simp [decO, hz2]; omega
          · have hp : o.p ≤ x.p := by simpa [reachB, hs] using hre
            have hp'0 : ¬ x.p < o.p := by omega
            simp [d21_9, hi', hi, g0, g1, g35, r3, hs, hp, hp'0]
            refine hx_drawn dc21_10 fun X2 d2 _ _ => ?_
            have hm2 := hm1.keep d2
            have g02 := d2.row g0 (by simp)
            have r32 := d2.row r3 (by simp)
            by_cases ha : x.acc = o.acc
            · have hm' := hm.m
              rw [hdrop, mtch, if_neg hnot, if_pos ha] at hm'
              simp [d21_10, hi', hi, g02, g1, g31, r32, ha, maskS, wi]
              exact ⟨X2, rest, ts, left, vt, ⟨⟨rfl, rfl⟩, rfl⟩, { hm2 with m := hm', rq := fun x hx => by have := hm2.rq x hx; omega, tl := by have := hm2.tl; omega }⟩
            have hm' := hm.m
            rw [hdrop, mtch, if_neg hnot, if_neg ha] at hm'
            obtain ⟨q, hq⟩ : ∃ q, q = min left x.q := ⟨_, rfl⟩
            rw [← hq] at hm'
            have hq2 : 0 ≤ q ∧ q ≤ left ∧ q ≤ x.q := by omega
            have hmin : amm1 false .i64 left [.int .i64 x.q] = some (.int .i64 q) := by
              rw [hq]
              by_cases h : x.q < left
              · simp [amm1, h]; omega
              · simp [amm1, h]; omega
            simp [d21_10, hi', hi, g02, g1, g31, g34', r32, ha, amm, hmin]
            refine hx_drawn dc21_12 fun X3 d3 hl3 hd3 => ?_
            have hm3 := hm2.keep d3
            have g03 := d3.row g02 (by simp)
            have r33 := d3.row r32 (by simp)
            obtain ⟨mm, hmm⟩ : ∃ mm, mm = X2.length + 16 := ⟨_, rfl⟩
            have e16 := hd3 16 (by decide)
            rw [← hmm] at e16
            have z16 : isDeadB X3[mm]? = true := by rw [e16]; rfl
            have lb2 := rowOf_lt g02
            have lH2 := rowOf_lt r32
            have s1 : ∀ (h : AH) X, rowOf (h.set mm X) b = rowOf h b := fun h X => by simp [rowOf, List.getElem?_set_ne (show mm ≠ b by omega)]
            have s2 : ∀ (h : AH) X, rowOf (h.set mm X) H.length = rowOf h H.length := fun h X => by simp [rowOf, List.getElem?_set_ne (show mm ≠ H.length by omega)]
            have s3 : ∀ l, rowRw (X3.set mm (.cells l .rw)) 0 mm = some l := fun l => rowRw_self (lt_of_get e16)
            simp [d21_12, hi', hi, g03, g1, g31, g35, r33, z16, ← hmm, s1, s2, s3, hs]
            obtain ⟨Z, eZ⟩ : ∃ Z, Z = X3.set mm (.cells [.int .i64 o.acc, .int .i64 x.acc, .int .i64 o.inst, .int .i64 q, .int .i64 x.p] .rw) := ⟨_, rfl⟩
            have cZ : Chg [] X2 Z := by rw [eZ]; exact d3.set_new (by omega) _
            have gZ : Z[mm]? = some (.cells [.int .i64 o.acc, .int .i64 x.acc, .int .i64 o.inst, .int .i64 q, .int .i64 x.p] .rw) := by rw [eZ, List.getElem?_set_self (lt_of_get e16)]
            rw [← eZ]
            refine hx_drawn dc21_14 fun Z1 d0 _ _ => ?_
            have gZ1 := d0.get gZ (by simp)
            have k0 := (cZ.tr d0).row r32 (by simp)
            have k1 := (cZ.tr d0).row g02 (by simp)
            have k2 : rowRw Z1 0 mm = some _ := rowRw_rw gZ1
            have k4 : ∀ l, rowRw (Z1.set mm (.cells l .rw)) 0 mm = some l := fun l => rowRw_self (lt_of_get gZ1)
            simp [d21_14, hi', hi, k0, k1, g1, g31, k2, k4, s1, s2]
            obtain ⟨W, eW⟩ : ∃ W, W = Z1.set mm (.cells [.int .i64 x.acc, .int .i64 o.acc, .int .i64 o.inst, .int .i64 q, .int .i64 x.p] .rw) := ⟨_, rfl⟩
            have cW : Chg [] X2 W := by rw [eW]; exact (cZ.tr d0).set_new (by omega) _
            have gT : W[mm]? = some (.cells (trO o x q).cs .rw) := by rw [eW, List.getElem?_set_self (lt_of_get gZ1)]; simp [trO, hs, Tr.cs]
            rw [← eW]
            have gTb : W[mm]? = some (.cells (trO o x q).cs .rw) := gT
            have hmW := hm2.keep cW
            have g0W := cW.row g02 (by simp)
            have rT := rowOf_rw gT
            simp only [Tr.cs, trO, hs, show ¬ ((1 : Int) = 2) by decide, if_true, if_false] at rT
            obtain ⟨W2, eW2⟩ : ∃ W2, W2 = W ++ [.cells (trO o x q).cs .pl] := ⟨_, rfl⟩
            have cW2 : Chg [] W W2 := by rw [eW2]; exact .app _ _
            have slT : SL W2 5 (.slice (some (W.length, 0)) 1 (some 1) 5) (trO o x q).cs := .at_ W.length 0 1 (some 1) (trO o x q).cs _ (by omega) (by rw [eW2]; simp [rowOf]) (by simp [Tr.cs]) (by simp [Tr.cs]) (by simp)
            have happ := (hmW.ht.keep cW2).append slT (by_ := 40) (by omega) (by omega) (by simp [Tr.cs]) (by have := hmW.tl; simp [room, Tr.cs]; omega)
            simp only [Tr.cs, trO, hs, show ¬ ((1 : Int) = 2) by decide, if_true, if_false] at eW2
            simp [rT]
            obtain ⟨av, cv, sv, evt⟩ := ST.form hmW.ht.sl
            rw [evt] at happ
            simp [← eW2, evt]
            refine Hx.mapp happ ?_
            rw [← evt]
            rintro ⟨vt', W3⟩ ⟨t1, t2, t3⟩
            simp only at t1 t2 t3
            rw [← trsC_snoc] at t1
            obtain ⟨av', cv', sv', evt'⟩ := ST.form t1.sl
            have wq : IntKind.i64.wrap (left - q) = left - q := wrap_i64 (by omega) (by omega)
            rw [evt']
            simp [wq]
            have lW2 : X2.length ≤ W2.length := (cW.tr cW2).1
            have lX : H4.length ≤ X2.length := by
              have := d1.1; have := d2.1; have := hm.ln; omega
            have n1 : ∀ i, i < H4.length → i ∉ blk vt := fun i hi h => by have := hmW.bt i h; omega
            have y3 := t2.get (cW2.get hmW.h3 (by simp)) (n1 _ (lt_of_get g34))
            have yr := (hmW.hr.chg cW2 (by simp)).chg t2 (fun i hi => n1 i (by have := (hBv i hi).1; omega))
            have hwlt : b < H4.length := hw.lt b (by simp)
            have yw := SL.chg (hmW.hw.keep cW2) t2 (fun i hi => n1 i (hw.lt i hi))
            have y0 := t2.row (cW2.row g0W (by simp)) (n1 _ hwlt)
            have yb : ∀ i ∈ blk vt', H4.length ≤ i := fun i hi => by
              rcases t3 i hi with h | h
              · exact hmW.bt i h
              · omega
            have yc : Chg [] H W3 := (hmW.ch.tr cW2).trans t2 (fun i hi => .inr (by have := hmW.bt i hi; have := c3H4.1; omega))
            have hrl := hmW.rl
            refine hx_up (fun n st => ∃ V cur, st = ⟨sp 174 [(3, .ptr (some (H.length, 0))), (8, .slice ar l.length cr sr), (9, .int .i64 (left - q)), (10, vt'), (11, .slice (some (b, ob)) own.length cw 6), (12, .int .i64 i), (13, .int .i64 q), (15, .int .i64 n)], V, []⟩ ∧
              Chg (blk (.slice ar l.length cr sr)) W3 V ∧ RS V (.slice ar l.length cr sr) cur ∧ cur = (rest.take n).map (decO x.id q) ++ rest.drop n) l.length ?_ ?_ (by omega) ⟨W3, rest, by simp [maskS, evt'], .refl, yr, rfl⟩
            · rintro n st hn ⟨V, cur, rfl, cV, hrV, ecur⟩
              have hn' : (n : Int) < l.length := by omega
              have wn : IntKind.i64.wrap ((n : Int) + 1) = (n : Int) + 1 := wrap_i64 (by omega) (by omega)
              have hcl : cur.length = l.length := by rw [ecur]; simp; omega
              have hir : n < rest.length := by omega
              have hci : cur[n]'(by omega) = rest[n] := by
                subst ecur
                rw [List.getElem_append_right (by simp; omega)]
                simp [show n - min n rest.length = 0 by omega]
              have qi := hm.rq rest[n] (List.getElem_mem _)
              have hi32 : (i : Int) ≤ 32 := by omega
              simp [hn', hn]
              refine hx_drawn dc21_20 fun V1 dV _ _ => ?_
              obtain ⟨b0, R, r', ear, esr, hR, eR, hcc⟩ : ∃ b0 R r, ar = some (b0, 0) ∧ sr = 6 ∧ V[b0]? = some (.cells R .rw) ∧ R = odsC cur ++ r ∧ ∀ k, cr = some k → cur.length ≤ k := by
                rcases hrV with ⟨_, _, _, e⟩ | ⟨_, _, _, _, e⟩ | ⟨b0, c0, R, r, e, h, hR, hc0⟩
                · rw [e] at hcl; simp at hcl; omega
                · rw [e] at hcl; simp at hcl; omega
                · injection e with z1 z2 z3 z4
                  exact ⟨b0, R, r, z1, z4, h, hR, fun k e => hc0 k (z3 ▸ e)⟩
              have hb0 : b0 ∈ blk (AV.slice ar l.length cr sr) := by rw [ear]; simp
              have hb1 := hBv _ hb0
              have hbb : b ≠ b0 := by have := hBw b (by simp); omega
              have bv : ∀ i, i ∈ blk (AV.slice ar l.length cr sr) → i = b0 := fun i hi => by rw [ear] at hi; simpa using hi
              have q0 := dV.row (cV.row y0 (fun h => hbb (bv _ h))) (by simp)
              have qR := dV.get hR (by simp)
              have qR1 := rowOf_rw qR
              have qR2 : rowRw V1 0 b0 = some R := rowRw_rw qR
              have a0 : R[n * 6]? = some (.int .i64 rest[n].id) := by
                have := odsC_at (l := cur) (r := r') (i := n) (j := 0) (by omega) (by omega)
                rw [← eR, hci] at this
                exact this
              have a4 : R[n * 6 + 4]? = some (.int .i64 rest[n].q) := by
                have := odsC_at (l := cur) (r := r') (i := n) (j := 4) (by omega) (by omega)
                rw [← eR, hci] at this
                exact this
              have hRl : n * 6 + 4 + 1 ≤ R.length := by rw [eR]; simp; omega
              have hset := fun z => odsC_setq (l := cur) (r := r') (i := n) (z := z) (by omega)
              have wr : IntKind.i64.wrap (rest[n].q - q) = rest[n].q - q := wrap_i64 (by omega) (by omega)
              have hnext : ∀ y : Od, y = decO x.id q rest[n] → cur.set n y = (rest.map (decO x.id q)).take (n + 1) ++ rest.drop (n + 1) := by
                intro y hy
                have hd : rest.drop n = rest[n] :: rest.drop (n + 1) := List.drop_eq_getElem_cons hir
                rw [ecur, List.set_append_right _ _ (by simp; omega), ← List.map_take, List.take_succ_eq_append_getElem hir, List.map_append, List.append_assoc, hd, show n - ((rest.take n).map (decO x.id q)).length = 0 by simp; omega, List.set_cons_zero, hy]
                rfl
              by_cases hid : rest[n].id = x.id
              · simp [d21_20, ear, esr, q0, qR1, qR2, hi', hi, hn', hn, g1, g30, a0, a4, hid, wr, hRl, wn, maskS]
                have cV' : Chg [b0] W3 V := by rw [ear] at cV; simpa using cV
                refine ⟨(cV'.tr dV).tr' (.set _ _ _), ?_⟩
                have hn2 := hnext { rest[n] with q := rest[n].q - q } (by simp [decO, hid])
                have hs2 := hset (rest[n].q - q)
                rw [hci, hn2, ← eR] at hs2
                refine .inr (.inr ⟨b0, cr, _, r', ?_, by rw [List.getElem?_set_self (lt_of_get qR)], hs2, fun k e => ?_⟩)
                · rw [← hn2, List.length_set, hcl]
                · rw [← hn2, List.length_set]; exact hcc k e
              · simp [d21_20, ear, esr, q0, qR1, qR2, hi', hi, hn', hn, g1, g30, a0, a4, hid, wr, hRl, wn, maskS]
                have cV' : Chg [b0] W3 V := by rw [ear] at cV; simpa using cV
                refine ⟨cV'.tr dV, ?_⟩
                have hn2 := hnext rest[n] (by simp [decO, hid])
                rw [← hci, List.set_getElem_self] at hn2
                rw [← hn2]
                rw [ear, esr] at hrV
                exact hrV.chg dV (by simp)
            · rintro st ⟨V, cur, rfl, cV, hrV, ecur⟩
              simp [maskS, wi]
              have ecur' : cur = rest.map (decO x.id q) := by
                rw [ecur, ← hrl, List.take_length, List.drop_length, List.append_nil]
              rw [ecur'] at hrV
              have n2 : ∀ i, H3.length ≤ i → i ∉ blk (AV.slice ar l.length cr sr) := fun i hi h => by have := (hBv _ h).1; omega
              have n3 : H.length ∉ blk (AV.slice ar l.length cr sr) := fun h => by have := (hBv _ h).2; omega
              refine ⟨V, rest.map (decO x.id q), ts ++ [trO o x q], left - q, vt', ⟨⟨rfl, rfl⟩, rfl⟩, cV.get y3 n3, yw.chg cV (fun i hi => n2 i (hBw i hi)), hrV, t1.chg cV (fun i hi => n2 i (by have := yb i hi; omega)), yb, by simp [hrl], hm', by omega, fun y hy => ?_, by have := hmW.tl; simp; omega,
                yc.trans cV (fun i hi => .inr (by have := (hBv i hi).2; omega)), by have := cV.1; have := t2.1; omega⟩
              obtain ⟨z, hz, rfl⟩ := List.mem_map.1 hy
              have := hm.rq z hz
              by_cases hz2 : z.id = x.id
              · simp [decO, hz2]; omega
              · simp [decO, hz2]; omega
      · rintro st ⟨X, rest, ts, left, vt, rfl, hm⟩
        have e : (rest, ts, left) = M := by
          have := hm.m
          rw [List.drop_length] at this
          exact this
        simp
        exact ⟨_, _, ⟨rfl, rfl⟩, rfl, rfl, rest, ts, left, rfl, ⟨_, hm⟩, e⟩
      · rintro _ ⟨env, X, rest, ts, left, vt, rfl, hel, E8, E9, E10, ⟨j, hm⟩, e⟩
        simp [E8, E9, E10, hel, get_ne, get_self]
        have hrl := hm.rl
        rw [← e]
        refine hx_up (fun n st => ∃ env V vo, st = ⟨env, V, []⟩ ∧ env.length = 174 ∧ Go.Ab.get env 8 = .slice ar l.length cr sr ∧ Go.Ab.get env 9 = .int .i64 left ∧ Go.Ab.get env 10 = vt ∧ Go.Ab.get env 16 = vo ∧ Go.Ab.get env 17 = .int .i64 n ∧ Chg [] X V ∧
          Mine V 6 vo (odsC ((rest.take n).filter fun x => decide (0 < x.q))) ∧ ∀ b ∈ blk vo, X.length ≤ b) l.length ?_ ?_ (by omega) ⟨_, X, .slice none 0 (some 0) 0, rfl, by simp [maskS, len_mask, hel], ?_, ?_, ?_, ?_, ?_, .refl, .nil _ _, by simp⟩
        · rintro n st hn ⟨env', V, vo, rfl, hel', F8, F9, F10, F16, F17, cV, ho', hb'⟩
          have hn' : (n : Int) < l.length := by omega
          have hnr : n < rest.length := by omega
          have wn : IntKind.i64.wrap ((n : Int) + 1) = (n : Int) + 1 := wrap_i64 (by omega) (by omega)
          obtain ⟨b0, o0, c0, r0, ee, f0, ff⟩ := SO.all (hm.hr.chg cV (by simp)).so (by intro h; simp [h] at hnr)
          obtain ⟨f1, f2, f3⟩ := ff n hnr
          injection ee with z1 z2 z3 z4
          rw [z1, z4] at F8
          obtain ⟨y, hy⟩ : ∃ y, y = rest[n] := ⟨_, rfl⟩
          rw [← hy] at f2 f3
          have f34 := f3 4 (by omega)
          simp only [Od.cs, List.getElem?_cons_zero, List.getElem?_cons_succ] at f2 f34
          have hfil := filter_take (P := fun x : Od => decide (0 < x.q)) hnr
          rw [← hy] at hfil
          obtain ⟨av, cv, sv, evo⟩ := SO.form ho'.sl
          by_cases hq : 0 < y.q
          · obtain ⟨V2, e2⟩ : ∃ V2, V2 = V ++ [.cells y.cs .pl] := ⟨_, rfl⟩
            have c2 : Chg [] V V2 := by rw [e2]; exact .app _ _
            have slY : SL V2 6 (.slice (some (V.length, 0)) 1 (some 1) 6) y.cs := .at_ V.length 0 1 (some 1) y.cs _ (by omega) (by rw [e2]; simp [rowOf]) (by simp [Od.cs]) (by simp [Od.cs]) (by simp)
            have happ := (ho'.keep c2).append slY (by_ := 48) (by omega) (by omega) (by simp [Od.cs]) (by
              have := List.length_filter_le (fun x : Od => decide (0 < x.q)) (rest.take n)
              simp [room, Od.cs]
              simp at this
              omega)
            simp only [Od.cs] at e2
            rw [evo] at happ F16
            simp [F8, F9, F10, F16, F17, hel', get_ne, get_self, hn', hn, hrl, f0, f1, f2, f34, hq]
            rw [← e2]
            refine Hx.mapp happ ?_
            rw [← evo]
            rintro ⟨vo', V3⟩ ⟨t1, t2, t3⟩
            simp only at t1 t2 t3
            rw [← odsC_snoc] at t1
            obtain ⟨av', cv', sv', evo'⟩ := SO.form t1.sl
            have hv : (rest.take n).filter (fun x => decide (0 < x.q)) ++ [y] = (rest.take (n + 1)).filter (fun x => decide (0 < x.q)) := by rw [hfil]; simp [hq]
            rw [hv] at t1
            rw [evo']
            have hg16 : AV.slice av' (((rest.take n).filter (fun x => decide (0 < x.q))).length + 1) cv' sv' = vo' := by rw [evo']; simp
            simp [F8, F9, F10, F17, hel', get_ne, get_self, wn]
            refine ⟨_, V3, rfl, by simp [len_mask, hel'], by rw [get_mask rfl]; simp [get_ne, F8, z1, z4], by rw [get_mask rfl]; simp [get_ne, F9], by rw [get_mask rfl]; simp [get_ne, F10], by rw [get_mask rfl]; simp [get_self, hel'], ?_, ?_, ?_⟩
            · exact (cV.tr c2).trans t2 (fun i hi => .inr (hb' i hi))
            · rw [get_mask rfl, get_ne (by decide), get_ne (by decide), get_ne (by decide), get_self (by simp [hel']), hg16]
              exact t1
            · rw [get_mask rfl, get_ne (by decide), get_ne (by decide), get_ne (by decide), get_self (by simp [hel']), hg16]
              intro i hi
              rcases t3 i hi with h | h
              · exact hb' i h
              · have := cV.1; have := c2.1; omega
          · have hv : (rest.take (n + 1)).filter (fun x => decide (0 < x.q)) = (rest.take n).filter (fun x => decide (0 < x.q)) := by rw [hfil]; simp [hq]
            rw [hv]
            simp [F8, F9, F10, F16, F17, hel', get_ne, get_self, hn', hn, hrl, f0, f1, f2, f34, hq, wn]
            refine ⟨_, V, rfl, by simp [len_mask, hel'], by rw [get_mask rfl]; simp [get_ne, F8, z1, z4], by rw [get_mask rfl]; simp [get_ne, F9], by rw [get_mask rfl]; simp [get_ne, F10], by rw [get_mask rfl]; simp [get_self, hel'], cV, ?_, ?_⟩
            · rw [get_mask rfl]
              simp only [get_ne (show 17 ≠ 16 by decide), get_ne (show 157 ≠ 16 by decide), get_ne (show 156 ≠ 16 by decide), get_ne (show 163 ≠ 16 by decide), get_ne (show 162 ≠ 16 by decide), get_ne (show 161 ≠ 16 by decide), get_ne (show 160 ≠ 16 by decide), get_ne (show 159 ≠ 16 by decide), get_ne (show 158 ≠ 16 by decide), get_ne (show 155 ≠ 16 by decide), get_ne (show 154 ≠ 16 by decide), get_ne (show 153 ≠ 16 by decide), get_ne (show 152 ≠ 16 by decide), F16]
              exact ho'
            · rw [get_mask rfl]
              simp only [get_ne (show 17 ≠ 16 by decide), get_ne (show 157 ≠ 16 by decide), get_ne (show 156 ≠ 16 by decide), get_ne (show 163 ≠ 16 by decide), get_ne (show 162 ≠ 16 by decide), get_ne (show 161 ≠ 16 by decide), get_ne (show 160 ≠ 16 by decide), get_ne (show 159 ≠ 16 by decide), get_ne (show 158 ≠ 16 by decide), get_ne (show 155 ≠ 16 by decide), get_ne (show 154 ≠ 16 by decide), get_ne (show 153 ≠ 16 by decide), get_ne (show 152 ≠ 16 by decide), F16]
              exact hb'
        · rintro st ⟨env', V, vo, rfl, hel', F8, F9, F10, F16, F17, cV, ho', hb'⟩
          rw [← hrl, List.take_length] at ho'
          simp [F8, F9, F10, F16, F17, hel', get_ne, get_self]
          exact ⟨_, _, ⟨rfl, rfl⟩, ho', (hm.ht.keep cV).sl, hm.ch.tr cV, fun b hb => by have := hb' b hb; have := hm.ch.1; omega⟩
        all_goals (rw [get_mask rfl]; simp [get_ne, get_self, hel, E8, E9, E10])
end
end Go.Proofs.Ytjpmddjibeecbaa.T.Qu
end
section
/-! The plain law: both answer alike. -/
set_option linter.unusedVariables false
set_option linter.unusedSimpArgs false
set_option maxHeartbeats 4000000
set_option maxRecDepth 100000
namespace Go.Proofs.Ytjpmddjibeecbaa.T.Qu
open Go Go.Ab
theorem ordB_id {l : List Od} : ∀ n, n ≤ l.length → ordB l n = true → ∀ i j (hi : i < l.length) (hj : j < l.length), i < j → j < n → l[i].id < l[j].id
  | 0, _, _, i, j, _, _, _, h => by omega
  | n + 1, hn, ho, i, j, hi, hj, hij, h => by
    rw [ordB] at ho
    simp only [Bool.and_eq_true, Bool.or_eq_true, decide_eq_true_eq] at ho
    by_cases hjn : j = n
    · subst hjn
      have h2 := ho.2.2
      rcases h2 with h2 | h2
      · omega
      · rw [getd hj, getd (by omega : j - 1 < l.length)] at h2
        by_cases hi1 : i = j - 1
        · subst hi1; exact h2
        · have := ordB_id j (by omega) ho.1 i (j - 1) hi (by omega) (by omega) (by omega)
          omega
    · exact ordB_id n (by omega) ho.1 i j hi hj hij (by omega)
def Rb (a b : Od) : Prop := betterB b a = false ∧ a.id ≠ b.id
theorem rpos_at {own : List Od} {x : Od} {s : Int} (hp : own.Pairwise Rb) (hs : ∀ a ∈ own, a.side = s ∧ a.id < x.id) (hx : x.side = s) : atP own x own.length = rpos x own ∧ (∀ a ∈ own.take (rpos x own), betterB x a = false) ∧ ∀ b ∈ own.drop (rpos x own), betterB x b = true := by
  have hah : ∀ a ∈ own, aheadB a x = !betterB x a := fun a ha => by
    obtain ⟨h1, h2⟩ := hs a ha
    unfold aheadB betterB
    rw [hx, h1]
    by_cases hs1 : s = 1
    · by_cases hpp : a.p = x.p
      · simp [hs1, hpp, h2]
      · simp [hs1, hpp]
        by_cases h : x.p < a.p
        · simp [h]; omega
        · simp [h]; omega
    · by_cases hpp : a.p = x.p
      · simp [hs1, hpp, h2]
      · simp [hs1, hpp]
  have hmono : ∀ i j (hi : i < own.length) (hj : j < own.length), i < j → betterB x own[i] = true → betterB x own[j] = true := fun i j hi hj hij hb => by
    have h := (List.pairwise_iff_getElem.1 hp) i j hi hj hij
    have h1 := (hs _ (List.getElem_mem hi)).1
    have h2 := (hs _ (List.getElem_mem hj)).1
    have h3 := h.1
    unfold betterB at h3 hb ⊢
    rw [hx] at hb ⊢
    rw [h2] at h3
    by_cases hs1 : s = 1
    · simp [hs1] at h3 hb ⊢; omega
    · simp [hs1] at h3 hb ⊢; omega
  have hlo : ∀ i (hi : i < own.length), i < rpos x own → betterB x own[i] = false := fun i hi h => by
    have := rpos_yes hi h
    rw [hah _ (List.getElem_mem hi)] at this
    simpa using this
  have hhi : ∀ i (hi : i < own.length), rpos x own ≤ i → betterB x own[i] = true := fun i hi h => by
    have hr : rpos x own < own.length := by omega
    have := rpos_no hr
    rw [hah _ (List.getElem_mem hr)] at this
    have h0 : betterB x own[rpos x own] = true := by simpa using this
    by_cases he : rpos x own = i
    · subst he; exact h0
    · exact hmono _ _ hr hi (by omega) h0
  refine ⟨?_, fun a ha => ?_, fun b hb => ?_⟩
  · have hle := rpos_le x own
    have : ∀ n, rpos x own ≤ n → n ≤ own.length → atP own x n = rpos x own := by
      intro n
      induction n with
      | zero => intro h _; rw [atP]; omega
      | succ n ih =>
        intro h1 h2
        rw [atP, getd (by omega : n < own.length)]
        by_cases he : rpos x own = n + 1
        · rw [hlo n (by omega) (by omega)]
          simp [he]
        · rw [hhi n (by omega) (by omega), if_pos rfl]
          exact ih (by omega) (by omega)
    exact this _ hle (Nat.le_refl _)
  · obtain ⟨i, hi, rfl⟩ := List.getElem_of_mem ha
    rw [List.length_take] at hi
    rw [List.getElem_take]
    exact hlo i (by omega) (by omega)
  · obtain ⟨i, hi, rfl⟩ := List.getElem_of_mem hb
    rw [List.length_drop] at hi
    rw [List.getElem_drop]
    exact hhi _ (by omega) (by omega)
theorem walkN_eq {l : List Od} {inst side : Int} (ho : ordB l l.length = true) : ∀ n, n ≤ l.length →
    walkN l inst side n = walkRN l inst side n ∧ (walkN l inst side n).Pairwise Rb ∧ ∀ a ∈ walkN l inst side n, a.side = side ∧ ∀ m (hm : m < l.length), n ≤ m → a.id < l[m].id
  | 0, _ => ⟨rfl, .nil, by simp [walkN]⟩
  | n + 1, hn => by
    obtain ⟨ih1, ih2, ih3⟩ := walkN_eq (inst := inst) (side := side) ho n (by omega)
    have hnl : n < l.length := by omega
    rw [walkN, walkRN, getd hnl]
    by_cases hc : l[n].inst = inst ∧ l[n].side = side
    · rw [if_pos hc, if_pos hc, ← ih1]
      obtain ⟨own, eo⟩ : ∃ own, own = walkN l inst side n := ⟨_, rfl⟩
      rw [← eo] at ih1 ih2 ih3 ⊢
      have hid : ∀ a ∈ own, a.side = side ∧ a.id < l[n].id := fun a ha => ⟨(ih3 a ha).1, (ih3 a ha).2 n hnl (Nat.le_refl _)⟩
      obtain ⟨k1, k2, k3⟩ := rpos_at ih2 hid hc.2
      have hI : insP own l[n] = insR own l[n] := by rw [insP, insR, k1]
      refine ⟨hI, ?_, fun a ha => ?_⟩
      · rw [hI, insR]
        have hsp : (own.take (rpos l[n] own) ++ own.drop (rpos l[n] own)).Pairwise Rb := by rw [List.take_append_drop]; exact ih2
        obtain ⟨p1, p2, p3⟩ := List.pairwise_append.1 hsp
        refine List.pairwise_append.2 ⟨p1, List.pairwise_cons.2 ⟨fun b hb => ?_, p2⟩, fun a ha b hb => ?_⟩
        · have h1 := k3 b hb
          have hb' := List.mem_of_mem_drop hb
          have h2 := hid b hb'
          refine ⟨?_, by omega⟩
          unfold betterB at h1 ⊢
          rw [hc.2] at h1
          rw [h2.1]
          by_cases hs1 : side = 1
          · simp [hs1] at h1 ⊢; omega
          · simp [hs1] at h1 ⊢; omega
        · rcases List.mem_cons.1 hb with rfl | hb
          · have := hid a (List.mem_of_mem_take ha)
            exact ⟨k2 a ha, by omega⟩
          · exact p3 a ha b hb
      · rcases insP_mem ha with rfl | ha
        · exact ⟨hc.2, fun m hm h => ordB_id l.length (Nat.le_refl _) ho n m hnl hm (by omega) hm⟩
        · exact ⟨(ih3 a ha).1, fun m hm h => (ih3 a ha).2 m hm (by omega)⟩
    · rw [if_neg hc, if_neg hc]
      exact ⟨ih1, ih2, fun a ha => ⟨(ih3 a ha).1, fun m hm h => (ih3 a ha).2 m hm (by omega)⟩⟩
theorem mtch_pos {o : Od} : ∀ (w rest : List Od) (ts : List Tr) (left : Int), 0 ≤ left → (∀ r ∈ rest, 0 ≤ r.q) → w.Pairwise Rb → (∀ x ∈ w, 0 ≤ x.q ∧ ∀ r ∈ rest, r.id = x.id → r.q = x.q) → ∀ r ∈ (mtch o w (rest, ts, left)).1, 0 ≤ r.q
  | [], rest, ts, left, _, h, _, _ => by rw [mtch]; exact h
  | x :: w, rest, ts, left, h0, h1, h2, h3 => by
    rw [mtch]
    obtain ⟨p1, p2⟩ := List.pairwise_cons.1 h2
    split
    · exact h1
    · split
      · exact mtch_pos w rest ts left h0 h1 p2 (fun y hy => h3 y (List.mem_cons_of_mem _ hy))
      · have hx := h3 x (List.mem_cons_self ..)
        refine mtch_pos w _ _ _ (by omega) (fun r hr => ?_) p2 (fun y hy => ⟨(h3 y (List.mem_cons_of_mem _ hy)).1, fun r hr hid => ?_⟩)
        · obtain ⟨z, hz, rfl⟩ := List.mem_map.1 hr
          have := h1 z hz
          have hzx := hx.2 z hz
          by_cases hzz : z.id = x.id
          · have := hzx hzz
            simp [decO, hzz]; omega
          · simp [decO, hzz]; omega
        · obtain ⟨z, hz, rfl⟩ := List.mem_map.1 hr
          have hne := (p1 y hy).2
          by_cases hzz : z.id = x.id
          · exfalso
            simp [decO, hzz] at hid
            exact hne hid
          · simp only [decO, if_neg hzz] at hid ⊢
            exact (h3 y (List.mem_cons_of_mem _ hy)).2 z hz hid
theorem match_same (l : List Od) (o : Od) : matchR l o = matchB l o := by
  unfold matchR matchB
  cases hrr : rightL l with
  | false => rfl
  | true =>
    cases hoo : rightO o with
    | false => rfl
    | true =>
      have ho : ordB l l.length = true := by
        simp only [rightL, Bool.and_eq_true] at hrr
        exact hrr.1
      obtain ⟨e1, e2, e3⟩ := walkN_eq (inst := o.inst) (side := 3 - o.side) ho l.length (Nat.le_refl _)
      have ew : walkRB l o.inst (3 - o.side) = walkB l o.inst (3 - o.side) := by
        rw [walkRB, walkB, if_pos hrr, if_pos hrr, e1]
      have ew2 : walkB l o.inst (3 - o.side) = walkN l o.inst (3 - o.side) l.length := by rw [walkB, if_pos hrr]
      rw [ew]
      simp only [Bool.and_self, if_true]
      have hmem := (rightL_mem hrr).1
      have hpos := mtch_pos (o := o) (walkB l o.inst (3 - o.side)) l [] o.q (by have := right_q hoo; omega) (fun r hr => by have := right_q (hmem r hr); omega) (by rw [ew2]; exact e2) (fun x hx => by
        have hxl := walkB_mem hx
        refine ⟨by have := right_q (hmem x hxl); omega, fun r hr hid => ?_⟩
        obtain ⟨i, hi, rfl⟩ := List.getElem_of_mem hr
        obtain ⟨j, hj, rfl⟩ := List.getElem_of_mem hxl
        rcases Nat.lt_trichotomy i j with h | h | h
        · have := ordB_id l.length (Nat.le_refl _) ho i j hi hj h hj; omega
        · subst h; rfl
        · have := ordB_id l.length (Nat.le_refl _) ho j i hj hi h hi; omega)
      have hf : (mtch o (walkB l o.inst (3 - o.side)) (l, [], o.q)).1.filter (fun x => decide (0 < x.q)) = (mtch o (walkB l o.inst (3 - o.side)) (l, [], o.q)).1.filter (fun x => !decide (x.q = 0)) := by
        refine List.filter_congr fun x hx => ?_
        have := hpos x hx
        by_cases h : x.q = 0
        · simp [h]
        · simp [h]; omega
      rw [hf]
end Go.Proofs.Ytjpmddjibeecbaa.T.Qu
end
section
/-! MatchAll. -/
set_option linter.unusedVariables false
set_option linter.unusedSimpArgs false
set_option maxHeartbeats 4000000
set_option maxRecDepth 100000
namespace Go.Proofs.Ytjpmddjibeecbaa.T.Qu
open Go Go.Ab
section
variable {k : Nat} {H : AH}
theorem ar_order {m : Nat} {al : List AV} (h : AR ap m H 24 al) : ∃ o : Od, al = o.cs := by
  obtain ⟨parts, m2, rfl, k2, k3⟩ := ar_struct h ty24 rfl
  match parts, k2 with
  | [p0, p1, p2, p3, p4, p5], _ =>
    obtain ⟨z0, rfl, w0⟩ := ar_int (k3 0 (0, 2) p0 rfl rfl) ty2 rfl
    obtain ⟨z1, rfl, w1⟩ := ar_int (k3 1 (1, 3) p1 rfl rfl) ty3 rfl
    obtain ⟨z2, rfl, w2⟩ := ar_int (k3 2 (2, 3) p2 rfl rfl) ty3 rfl
    obtain ⟨z3, rfl, w3⟩ := ar_int (k3 3 (3, 3) p3 rfl rfl) ty3 rfl
    obtain ⟨z4, rfl, w4⟩ := ar_int (k3 4 (4, 2) p4 rfl rfl) ty2 rfl
    obtain ⟨z5, rfl, w5⟩ := ar_int (k3 5 (5, 2) p5 rfl rfl) ty2 rfl
    exact ⟨⟨z0, z1, z2, z3, z4, z5⟩, rfl⟩
theorem ar_orders {m : Nat} {al : List AV} (h : AR ap m H 22 al) : ∃ v l, al = [v] ∧ SO H v l := by
  obtain ⟨v, es, m', rfl, h1, h2⟩ := ar_slice h ty22 rfl ty24
  obtain ⟨l, g1, g2⟩ := list_choose (R := fun (x : List AV) (o : Od) => x = o.cs) es fun x hx => ar_order (h2 x hx).2
  have : es = l.map Od.cs := by
    refine List.ext_getElem (by simp [g1]) fun i hi hj => ?_
    rw [List.getElem_map]
    have hil : i < l.length := by simpa using hj
    exact g2 i _ _ (List.getElem?_eq_getElem hi) (List.getElem?_eq_getElem hil)
  rw [this] at h1
  exact ⟨v, l, rfl, h1⟩
theorem filter_len {l : List Od} {P : Od → Bool} : (l.filter P).length ≤ l.length := List.length_filter_le _ _
theorem mtch_len {o : Od} : ∀ (w rest : List Od) (ts : List Tr) (left : Int), (mtch o w (rest, ts, left)).1.length = rest.length ∧ (mtch o w (rest, ts, left)).2.1.length ≤ ts.length + w.length
  | [], rest, ts, left => by rw [mtch]; exact ⟨rfl, Nat.le_refl _⟩
  | x :: w, rest, ts, left => by
    rw [mtch]
    split
    · exact ⟨rfl, by simp⟩
    · split
      · have := mtch_len (o := o) w rest ts left
        exact ⟨this.1, by simp only [List.length_cons]; omega⟩
      · have := mtch_len (o := o) w (rest.map (decO x.id (min left x.q))) (ts ++ [trO o x (min left x.q)]) (left - min left x.q)
        simp only [List.length_map, List.length_append, List.length_cons, List.length_nil] at this ⊢
        omega
theorem matchB_len {l : List Od} {o : Od} : (matchB l o).1.length ≤ l.length ∧ (matchB l o).2.1.length ≤ l.length := by
  unfold matchB
  split
  · have h := mtch_len (o := o) (walkB l o.inst (3 - o.side)) l [] o.q
    refine ⟨Nat.le_trans filter_len (Nat.le_of_eq h.1), Nat.le_trans h.2 ?_⟩
    have : (walkB l o.inst (3 - o.side)).length ≤ l.length := by
      unfold walkB
      split
      · exact walkN_len _ _ _ _
      · exact Nat.zero_le _
    simpa using this
  · simp
theorem told_ok {v : AV} {l : List Od} {o p : Od} (h : SO H v l) (hl : l.length ≤ 100) (hk : 300 < k) : Hx (callA ap k (.func 9 [] []) [v, .agg o.cs, .agg p.cs] 0 H) fun r => r.1 = .bool true ∧ Chg [] H r.2 := by
  obtain ⟨k, rfl⟩ : ∃ k', k = k' + 9 := ⟨k - 9, by omega⟩
  rw [hx_go fn9 rfl, b9]
  obtain ⟨a, c, s, rfl⟩ := h.form
  obtain ⟨G, eG⟩ : ∃ G, G = H ++ [.cells o.cs .rw, .cells p.cs .rw] := ⟨_, rfl⟩
  have cG : Chg [] H G := by rw [eG]; exact .app _ _
  have g1 : rowOf G H.length = some o.cs := by rw [eG]; simp [Od.cs]
  have g2 : rowOf G (H.length + 1) = some p.cs := by rw [eG]; simp [Od.cs]
  have hm := match_ok (k := k + 8) (o := o) (h.keep cG) (by omega) (by omega)
  simp only [Od.cs] at eG g1 g2 hm
  simp [Od.cs]
  rw [← eG]
  simp [g1]
  refine Hx.mapp hm ?_
  rintro ⟨r, H1⟩ ⟨vr, vt, e, hr, ht, c1, _⟩
  simp only at e hr ht c1
  subst e
  have g11 := c1.row g1 (by simp)
  have g21 := c1.row g2 (by simp)
  have hm2 := rmatch_ok (k := k + 8) (o := o) (h.keep (cG.tr c1)) (by omega) (by omega)
  rw [match_same] at hm2
  simp only [Od.cs] at hm2
  obtain ⟨x1, x2, x3, ex⟩ := SO.form hr
  obtain ⟨y1, y2, y3, ey⟩ := ST.form ht
  subst ex ey
  simp [g11]
  refine Hx.mapp hm2 ?_
  rintro ⟨r, H2⟩ ⟨vr', vt', e, hr', ht', c2, _⟩
  simp only at e hr' ht' c2
  replace hr' := hr'.sl
  subst e
  obtain ⟨x1', x2', x3', ex'⟩ := SO.form hr'
  obtain ⟨y1', y2', y3', ey'⟩ := ST.form ht'
  subst ex' ey'
  simp
  refine hx_drawn dc9_3 fun H3 c3 _ _ => ?_
  have g13 := (c2.tr c3).row g11 (by simp)
  have g23 := (c2.tr c3).row g21 (by simp)
  have hlen := matchB_len (l := l) (o := o)
  have k1 := orders_eq (k := k + 8) (hr.keep (c2.tr c3)) (hr'.keep c3) (by omega) (by omega) (by omega)
  have k2 := trades_eq (k := k + 8) (ht.keep (c2.tr c3)) (ht'.keep c3) (by omega) (by omega) (by omega)
  have hs := h.keep (cG.tr (c1.tr (c2.tr c3)))
  have k3 := crossed_ok (k := k + 8) hs (by omega) (by omega)
  have k4 := rcrossed_ok (k := k + 8) hs (by omega) (by omega)
  simp [d9_3, g13, g23, k1, k2, k3, k4, cross_u, rcross_u, eqV]
  exact cG.tr (c1.tr (c2.tr c3))
theorem matchAll_main (H : AH) (ass : List (List AV)) (hl : ass.length = [22, 24, 24].length) (ha : ∀ (i : Nat) t al, [22, 24, 24][i]? = some t → ass[i]? = some al → AR ap 6 H t al) :
    Hx (callA ap 2000 (.func 3 [] []) (List.zipWith (argA ap) [22, 24, 24] ass) 0 H) fun r => r.1 = .bool true := by
  match ass, hl with
  | [a0, a1, a2], _ =>
    obtain ⟨v, l, rfl, h⟩ := ar_orders (ha 0 22 a0 rfl rfl)
    obtain ⟨o, rfl⟩ := ar_order (ha 1 24 a1 rfl rfl)
    obtain ⟨p, rfl⟩ := ar_order (ha 2 24 a2 rfl rfl)
    have e24 : ∀ x, argA ap 24 x = .agg x := fun x => by unfold argA; rw [ty24]; rfl
    simp only [List.zipWith_cons_cons, List.zipWith_nil_right, argA_one ty22 rfl, e24, tag_eq]
    obtain ⟨K, hK⟩ : ∃ K, K + 1 = 2000 := ⟨1999, rfl⟩
    rw [← hK, hx_go fn3 rfl, b3]
    obtain ⟨a, c, s, rfl⟩ := h.form
    have hkn : ∀ H, callA ap K (.func 8 [] []) [] 0 H = some (.bool true, H) := fun H => by
      have := known_ok (k := K - 1) (lo := 0) (H := H)
      rwa [show K - 1 + 1 = K by omega] at this
    by_cases h40 : 40 < (l.length : Int)
    · simp [Od.cs, hkn, h40]
    · obtain ⟨G, eG⟩ : ∃ G, G = H ++ [.cells o.cs .rw, .cells p.cs .rw] := ⟨_, rfl⟩
      have cG : Chg [] H G := by rw [eG]; exact .app _ _
      have ht := told_ok (k := K) (o := o) (p := p) (h.keep cG) (by omega) (by omega)
      simp only [Od.cs] at eG ht
      simp [Od.cs, hkn, h40]
      rw [← eG]
      refine Hx.mapp ht ?_
      rintro ⟨r, H1⟩ ⟨e, _⟩
      simp only at e
      subst e
      simp
end
end Go.Proofs.Ytjpmddjibeecbaa.T.Qu
end
section
/-! Decks: numbers that are drawn. Nothing is told of them but their bounds. -/
set_option linter.unusedVariables false
set_option linter.unusedSimpArgs false
set_option maxHeartbeats 4000000
set_option maxRecDepth 100000
namespace Go.Proofs.Ytjpmddjibeecbaa.T
open Go Go.Ab
def U64 (n : Int) : Prop := 0 ≤ n ∧ n < 18446744073709551616
def u64s (l : List Int) : List AV := l.map (AV.int .u64)
@[simp] theorem u64s_len {l : List Int} : (u64s l).length = l.length := by simp [u64s]
/-- A deck, of which at most n numbers were drawn. -/
def Dk (H : AH) (p n : Nat) : Prop := ∃ (v : AV) (L : List Int) (i : Nat), H[p]? = some (.cells [v, .int .i64 i] .rw) ∧ SL H 1 v (u64s L) ∧ (∀ x ∈ L, U64 x) ∧ (∀ b ∈ blk v, b < p) ∧ i ≤ n
theorem Dk.chg {H H' : AH} {p n : Nat} {F : List Nat} (h : Dk H p n) (c : Chg F H H') (hF : ∀ i ∈ F, p < i) : Dk H' p n := by
  obtain ⟨v, L, i, h1, h2, h3, h4, h5⟩ := h
  exact ⟨v, L, i, c.get h1 (fun hp => by have := hF p hp; omega), h2.chg c (fun b hb hf => by have := hF b hf; have := h4 b hb; omega), h3, h4, h5⟩
theorem Dk.keep {H H' : AH} {p n : Nat} (h : Dk H p n) (c : Chg [] H H') : Dk H' p n := h.chg c (by simp)
theorem Dk.more {H : AH} {p n m : Nat} (h : Dk H p n) (hm : n ≤ m) : Dk H p m := by
  obtain ⟨v, L, i, h1, h2, h3, h4, h5⟩ := h
  exact ⟨v, L, i, h1, h2, h3, h4, by omega⟩
theorem Dk.lt {H : AH} {p n : Nat} (h : Dk H p n) : p < H.length := by
  obtain ⟨v, L, i, h1, _⟩ := h
  exact lt_of_get h1
section
variable {k p n : Nat} {H : AH}
theorem next_ok (h : Dk H p n) (hn : n ≤ 1000000) : Hx (callA ap (k + 1) (.func 24 [] []) [.ptr (some (p, 0))] 0 H) fun r => ∃ x, r.1 = .int .u64 x ∧ U64 x ∧ Dk r.2 p (n + 1) ∧ Chg [p] H r.2 := by
  obtain ⟨v, L, i, h1, h2, h3, h4, h5⟩ := h
  rw [hx_go fn24 rfl, b24]
  obtain ⟨a, c, s, rfl⟩ := h2.form1
  have hw : IntKind.i64.wrap ((i : Int) + 1) = ((i + 1 : Nat) : Int) := by rw [wrap_i64 (by omega) (by omega)]; omega
  have fin : ∀ {H2 : AH}, Chg [] H H2 → Dk (H2.set p (.cells [.slice a (u64s L).length c s, .int .i64 ((i + 1 : Nat) : Int)] .rw)) p (n + 1) ∧ Chg [p] H (H2.set p (.cells [.slice a (u64s L).length c s, .int .i64 ((i + 1 : Nat) : Int)] .rw)) := fun {H2} c2 => by
    have g := c2.get h1 (by simp)
    refine ⟨⟨_, L, i + 1, List.getElem?_set_self (lt_of_get g), (h2.keep c2).chg (.set _ _ _) (fun b hb => by have := h4 b hb; simp; omega), h3, h4, by omega⟩, c2.nil.trans (.set _ _ _) (by simp)⟩
  simp [f24, b24]
  refine hx_drawn dc24_2 fun H1 c1 hl1 hd1 => ?_
  have g1 := rowOf_rw (c1.get h1 (by simp))
  by_cases hi : i < L.length
  · simp [d24_2, eqV, g1, hi]
    refine hx_drawn dc24_3 fun H2 c2 hl2 hd2 => ?_
    have c2 := c1.tr c2
    have g2 := c2.get h1 (by simp)
    obtain ⟨b0, o0, c0, r0, e0, k1, k2⟩ := (h2.keep c2).get1 (i := i) (by simpa using hi)
    injection e0 with z1 z2 z3 z4
    subst z1 z3 z4
    have k2 : r0[o0 + i]? = some (.int .u64 L[i]) := by rw [k2]; simp [u64s, hi]
    have hx : U64 L[i] := h3 _ (List.getElem_mem hi)
    generalize L[i] = x at *
    have f2 := fin c2
    simp only [u64s_len] at f2
    simp [d24_3, eqV, rowOf_rw g2, rowRw_rw g2, k1, k2, hi, hw]
    exact ⟨hx, f2⟩
  · have f1 := fin c1
    simp only [u64s_len] at f1
    have g2 := c1.get h1 (by simp)
    simp [d24_2, eqV, g1, hi, rowRw_rw g2, hw]
    exact ⟨⟨by omega, by omega⟩, f1⟩
theorem wrap_u64_in {x : Int} (h : U64 x) : IntKind.u64.wrap x = x := wraps_u64 x h.1 (by have := h.2; omega)
theorem n_ok (h : Dk H p n) (hn : n ≤ 1000000) {m : Int} (h1 : 1 ≤ m) (h2 : m ≤ 1000000000000) : Hx (callA ap (k + 2) (.func 12 [] []) [.ptr (some (p, 0)), .int .i64 m] 0 H) fun r => ∃ x, r.1 = .int .i64 x ∧ (0 ≤ x ∧ x < m) ∧ Dk r.2 p (n + 1) ∧ Chg [p] H r.2 := by
  rw [hx_go fn12 rfl, b12]
  simp [f12, b12]
  refine Hx.mapp (next_ok h hn) ?_
  rintro ⟨r, H2⟩ ⟨x, e, hx, hd, c⟩
  simp only at e hd c
  subst e
  have hm : IntKind.u64.wrap m = m := wrap_u64_in ⟨by omega, by omega⟩
  have hm0 : ¬ m = 0 := by omega
  have ht : x.tmod m = x % m := Int.tmod_eq_emod_of_nonneg hx.1
  have h3 := Int.emod_nonneg x hm0
  have h4 := Int.emod_lt_of_pos x (b := m) (by omega)
  have hw : IntKind.i64.wrap (x % m) = x % m := wrap_i64 (by omega) (by omega)
  simp [hm, hm0, ht, hw]
  exact ⟨⟨h3, h4⟩, hd, c⟩
theorem of_ok {v : AV} {L : List Int} (h : SL H 1 v (u64s L)) (hL : ∀ x ∈ L, U64 x) : Hx (callA ap (k + 1) (.func 10 [] []) [v] 0 H) fun r => r.1 = .ptr (some (H.length, 0)) ∧ Dk r.2 H.length 0 ∧ Chg [] H r.2 := by
  rw [hx_go fn10 rfl, b10]
  obtain ⟨a, c, s, rfl⟩ := h.form1
  simp only [u64s_len] at h
  simp [f10, b10]
  refine ⟨⟨.slice a L.length c s, L, 0, by simp, by simpa using h.keep (.app _ _), hL, fun b hb => ?_, Nat.le_refl 0⟩, .app _ _⟩
  exact h.lt b hb
end
end Go.Proofs.Ytjpmddjibeecbaa.T
end
section
/-! Orders that are drawn. -/
set_option linter.unusedVariables false
set_option linter.unusedSimpArgs false
set_option maxHeartbeats 4000000
set_option maxRecDepth 100000
namespace Go.Proofs.Ytjpmddjibeecbaa.T.Qu
open Go Go.Ab
/-- What drawn orders are like. -/
structure Drawn (l : List Od) (id : Int) : Prop where
  ok : ∀ x ∈ l, 1 ≤ x.id ∧ x.id ≤ id ∧ 1 ≤ x.acc ∧ x.acc ≤ 5 ∧ 0 ≤ x.inst ∧ x.inst ≤ 1 ∧ (x.side = 1 ∨ x.side = 2) ∧ 1 ≤ x.q ∧ x.q ≤ 20 ∧ 95 ≤ x.p ∧ x.p ≤ 104
  up : l.Pairwise fun a b => a.id < b.id
  top : 0 ≤ id ∧ id ≤ 3 * l.length
theorem Drawn.snoc {l : List Od} {id d : Int} (h : Drawn l id) {x : Od} (hd : 1 ≤ d ∧ d ≤ 3) (hx : x.id = id + d) (ho : 1 ≤ x.acc ∧ x.acc ≤ 5 ∧ 0 ≤ x.inst ∧ x.inst ≤ 1 ∧ (x.side = 1 ∨ x.side = 2) ∧ 1 ≤ x.q ∧ x.q ≤ 20 ∧ 95 ≤ x.p ∧ x.p ≤ 104) : Drawn (l ++ [x]) (id + d) := by
  have ht := h.top
  refine ⟨fun y hy => ?_, List.pairwise_append.2 ⟨h.up, by simp, fun a ha b hb => ?_⟩, by simp; omega⟩
  · rcases List.mem_append.1 hy with hy | hy
    · have := h.ok y hy; omega
    · simp at hy; subst hy; omega
  · simp at hb; subst hb
    have := h.ok a ha; omega
section
variable {k p n : Nat} {H : AH}
theorem norders_ok {most : Nat} (h : Dk H p n) (hn : n + 10 * most ≤ 100000) (hm : most ≤ 100) (hk : most + 50 < k) : Hx (callA ap k (.func 11 [] []) [.ptr (some (p, 0)), .int .i64 most] 0 H) fun r =>
    ∃ l id, Mine r.2 6 r.1 (odsC l) ∧ Drawn l id ∧ l.length ≤ most ∧ Dk r.2 p (n + 1 + 6 * l.length) ∧ Chg [p] H r.2 ∧ ∀ b ∈ blk r.1, H.length ≤ b := by
  obtain ⟨k, rfl⟩ : ∃ k', k = k' + 9 := ⟨k - 9, by omega⟩
  rw [hx_go fn11 rfl, b11]
  have w0 : IntKind.i64.wrap ((most : Int) + 1) = (most : Int) + 1 := wrap_i64 (by omega) (by omega)
  have hpl := h.lt
  simp [w0]
  refine Hx.mapp (n_ok (k := k + 6) h (by omega) (m := (most : Int) + 1) (by omega) (by omega)) ?_
  rintro ⟨r, H1⟩ ⟨x, e, hx, d1, c1⟩
  simp only at e d1 c1
  subst e
  obtain ⟨j0, rfl⟩ : ∃ j0 : Nat, x = j0 := ⟨x.toNat, by omega⟩
  simp
  refine hx_down (fun j st => ∃ H' v l id, st = ⟨sp 41 [(0, .ptr (some (p, 0))), (5, v), (6, .int .i64 id), (7, .int .i64 (j : Nat))], H', []⟩ ∧ Mine H' 6 v (odsC l) ∧ (∀ b ∈ blk v, H.length ≤ b) ∧ Dk H' p (n + 1 + 6 * l.length) ∧ Chg [p] H H' ∧ l.length + j = j0 ∧ Drawn l id) (j := j0) ?_ (by omega)
    ⟨H1, .slice none 0 (some 0) 0, [], 0, by simp [maskS], .nil _ _, by simp, by simpa using d1, c1, by simp, ⟨by simp, .nil, by simp⟩⟩
  rintro j st ⟨H2, v, l, id, rfl, hv, hb, hd, c2, hlj, hdr⟩
  have hj0 : (j0 : Int) ≤ most := by omega
  have hll : l.length ≤ most := by omega
  cases j with
  | zero =>
    obtain ⟨av, cv, sv, ev⟩ := SO.form hv.sl
    subst ev
    simp
    exact ⟨l, hv, ⟨id, hdr⟩, hll, hd, c2, hb⟩
  | succ j =>
    have ht := hdr.top
    have hp0 : (0 : Int) < (j : Int) + 1 := by omega
    have wj : IntKind.i64.wrap ((j : Int) + 1 - 1) = (j : Int) := by rw [wrap_i64 (by omega) (by omega)]; omega
    have wj' : IntKind.i64.wrap (j : Int) = (j : Int) := wrap_i64 (by omega) (by omega)
    simp [hp0]
    refine Hx.mapp (n_ok (k := k + 6) hd (by omega) (m := 3) (by omega) (by omega)) ?_
    rintro ⟨r, H3⟩ ⟨d, e, hdd, d3, c3⟩
    simp only at e d3 c3
    subst e
    have w1 : IntKind.i64.wrap (1 + d) = 1 + d := wrap_i64 (by omega) (by omega)
    have w2 : IntKind.i64.wrap (id + (1 + d)) = id + (1 + d) := wrap_i64 (by omega) (by omega)
    simp [w1, w2]
    refine Hx.mapp (n_ok (k := k + 6) d3 (by omega) (m := 5) (by omega) (by omega)) ?_
    rintro ⟨r, H4⟩ ⟨x1, e, hx1, d4, c4⟩
    simp only at e d4 c4
    subst e
    have w3 : IntKind.i64.wrap (1 + x1) = 1 + x1 := wrap_i64 (by omega) (by omega)
    simp [w3]
    refine Hx.mapp (n_ok (k := k + 6) d4 (by omega) (m := 2) (by omega) (by omega)) ?_
    rintro ⟨r, H5⟩ ⟨x2, e, hx2, d5, c5⟩
    simp only at e d5 c5
    subst e
    simp
    refine Hx.mapp (n_ok (k := k + 6) d5 (by omega) (m := 2) (by omega) (by omega)) ?_
    rintro ⟨r, H6⟩ ⟨x3, e, hx3, d6, c6⟩
    simp only at e d6 c6
    subst e
    have w4 : IntKind.i64.wrap (1 + x3) = 1 + x3 := wrap_i64 (by omega) (by omega)
    simp [w4]
    refine Hx.mapp (n_ok (k := k + 6) d6 (by omega) (m := 20) (by omega) (by omega)) ?_
    rintro ⟨r, H7⟩ ⟨x4, e, hx4, d7, c7⟩
    simp only at e d7 c7
    subst e
    have w5 : IntKind.i64.wrap (1 + x4) = 1 + x4 := wrap_i64 (by omega) (by omega)
    simp [w5]
    refine Hx.mapp (n_ok (k := k + 6) d7 (by omega) (m := 10) (by omega) (by omega)) ?_
    rintro ⟨r, H8⟩ ⟨x5, e, hx5, d8, c8⟩
    simp only at e d8 c8
    subst e
    have w6 : IntKind.i64.wrap (95 + x5) = 95 + x5 := wrap_i64 (by omega) (by omega)
    have c28 : Chg [p] H2 H8 := c3.tr' (c4.tr' (c5.tr' (c6.tr' (c7.tr' c8))))
    obtain ⟨x, ex⟩ : ∃ x : Od, x = ⟨id + (1 + d), 1 + x1, x2, 1 + x3, 1 + x4, 95 + x5⟩ := ⟨_, rfl⟩
    obtain ⟨V2, e2⟩ : ∃ V2, V2 = H8 ++ [.cells x.cs .pl] := ⟨_, rfl⟩
    have cV : Chg [] H8 V2 := by rw [e2]; exact .app _ _
    have slY : SL V2 6 (.slice (some (H8.length, 0)) 1 (some 1) 6) x.cs := .at_ H8.length 0 1 (some 1) x.cs _ (by omega) (by rw [e2]; simp [rowOf]) (by simp [Od.cs]) (by simp [Od.cs]) (by simp)
    have hpb : ∀ i ∈ blk v, i ∉ [p] := fun i hi => by have := hb i hi; simp; omega
    have hv8 := (hv.chg c28 hpb).keep cV
    have happ := hv8.append slY (by_ := 48) (by omega) (by omega) (by simp [Od.cs]) (by simp [room, Od.cs]; omega)
    simp only [Od.cs, ex] at e2
    obtain ⟨av, cv, sv, ev⟩ := SO.form hv.sl
    rw [ev] at happ
    simp [w6, ev]
    rw [← e2]
    refine Hx.mapp happ ?_
    rw [← ev]
    rintro ⟨v', H9⟩ ⟨t1, t2, t3⟩
    simp only at t1 t2 t3
    rw [← odsC_snoc] at t1
    obtain ⟨av', cv', sv', ev'⟩ := SO.form t1.sl
    rw [ev']
    have c29 : Chg [p] H H9 := (c2.tr' (c28.tr cV)).trans t2 (fun i hi => .inr (hb i hi))
    have d9 : Dk H9 p (n + 1 + 6 * (l.length + 1)) := ((d8.keep cV).chg t2 (fun i hi => by have := hb i hi; omega)).more (by omega)
    simp [maskS, wj, wj']
    refine ⟨j, by omega, H9, v', l ++ [x], id + (1 + d), ?_, t1, fun b hb' => ?_, by simpa using d9, c29, by simp; omega, hdr.snoc (by omega) (by rw [ex]) (by rw [ex]; simp only; omega)⟩
    · simp [ev']
    · rcases t3 b hb' with h' | h'
      · exact hb b h'
      · have := cV.1; have := c28.1; have := c2.1; omega
end
end Go.Proofs.Ytjpmddjibeecbaa.T.Qu
end
section
/-! Orders that rest. -/
set_option linter.unusedVariables false
set_option linter.unusedSimpArgs false
set_option maxHeartbeats 4000000
set_option maxRecDepth 100000
namespace Go.Proofs.Ytjpmddjibeecbaa.T.Qu
open Go Go.Ab
def stepR (l : List Od) (o : Od) : List Od := if 0 < (matchB l o).2.2.1 ∧ (matchB l o).1.length < 32 then (matchB l o).1 ++ [{ o with q := (matchB l o).2.2.1 }] else (matchB l o).1
def restN (os : List Od) : Nat → List Od
  | 0 => []
  | n + 1 => stepR (restN os n) (os.getD n dO)
theorem stepR_len {l : List Od} {o : Od} (h : l.length ≤ 32) : (stepR l o).length ≤ 32 := by
  have := (matchB_len (l := l) (o := o)).1
  unfold stepR
  split
  · simp; omega
  · omega
theorem restN_len (os : List Od) : ∀ n, (restN os n).length ≤ 32
  | 0 => by simp [restN]
  | n + 1 => stepR_len (restN_len os n)
section
variable {k p n : Nat} {H : AH}
theorem resting_ok (h : Dk H p n) (hn : n ≤ 10000) (hk : 300 < k) : Hx (callA ap k (.func 13 [] []) [.ptr (some (p, 0))] 0 H) fun r =>
    ∃ os id, Drawn os id ∧ os.length ≤ 40 ∧ Mine r.2 6 r.1 (odsC (restN os os.length)) ∧ Dk r.2 p (n + 300) ∧ Chg [p] H r.2 ∧ ∀ b ∈ blk r.1, H.length ≤ b := by
  obtain ⟨k, rfl⟩ : ∃ k', k = k' + 9 := ⟨k - 9, by omega⟩
  rw [hx_go fn13 rfl, b13]
  have hpl := h.lt
  simp
  refine Hx.mapp (norders_ok (k := k + 8) (most := 40) h (by omega) (by omega) (by omega)) ?_
  rintro ⟨v0, H1⟩ ⟨os, id, hv, hdr, hlen, hd, c1, hb⟩
  simp only at hv hd c1 hb
  obtain ⟨a0, c0, s0, e0⟩ := SO.form hv.sl
  subst e0
  simp
  refine hx_up (fun i st => ∃ H' v, st = ⟨sp 41 [(3, v), (11, .slice a0 os.length c0 s0), (12, .int .i64 os.length), (13, .int .i64 i)], H', []⟩ ∧ Mine H' 6 v (odsC (restN os i)) ∧ (∀ b ∈ blk v, H1.length ≤ b) ∧ Chg [] H1 H') os.length ?_ ?_ (by omega)
    ⟨H1, .slice none 0 (some 0) 0, by simp [maskS], .nil _ _, by simp, .refl⟩
  · rintro i st hi ⟨H2, v, rfl, hv2, hb2, c2⟩
    have hi' : (i : Int) < os.length := by omega
    have wi : IntKind.i64.wrap ((i : Int) + 1) = (i : Int) + 1 := wrap_i64 (by omega) (by omega)
    obtain ⟨b, o, c', r, e, g0, gg⟩ := SO.all (hv.sl.keep c2) (by intro h; simp [h] at hi)
    injection e with z1 z2 z3 z4
    subst z1 z3 z4
    obtain ⟨g1, g2, -⟩ := gg i hi
    obtain ⟨x, hxx⟩ : ∃ x, x = os[i] := ⟨_, rfl⟩
    rw [← hxx] at g2
    have hgd : os.getD i dO = x := by rw [getd hi, hxx]
    obtain ⟨G, eG⟩ : ∃ G, G = H2 ++ [.cells x.cs .rw] := ⟨_, rfl⟩
    have cG : Chg [] H2 G := by rw [eG]; exact .app _ _
    have rG : rowOf G H2.length = some x.cs := by rw [eG]; simp [Od.cs]
    have hl := restN_len os i
    have hm := rmatch_ok (k := k + 8) (o := x) (hv2.keep cG).sl (by omega) (by omega)
    rw [match_same] at hm
    have hml := (matchB_len (l := restN os i) (o := x)).1
    obtain ⟨av, cv, sv, ev⟩ := SO.form hv2.sl
    rw [ev] at hm
    have gG : G[H2.length]? = some (.cells x.cs .rw) := by rw [eG]; simp
    simp only [Od.cs] at eG g2 rG hm gG
    simp [hi', hi, g0, g1, g2]
    rw [← eG, ev]
    simp [rG]
    refine Hx.mapp hm ?_
    rintro ⟨r', H3⟩ ⟨vr, vt, er, hvr, hvt, c3, hbr⟩
    simp only at er hvr hvt c3 hbr
    subst er
    obtain ⟨ar, cr, sr, er⟩ := SO.form hvr.sl
    obtain ⟨at_, ct, st, et⟩ := ST.form hvt
    subst er et
    have gG3 := c3.get gG (by simp)
    have rG3 := rowOf_rw gG3
    have rw3 : rowRw H3 0 H2.length = some _ := rowRw_rw gG3
    obtain ⟨R, eR⟩ : ∃ R, R = matchB (restN os i) x := ⟨_, rfl⟩
    have hst : restN os (i + 1) = if 0 < R.2.2.1 ∧ R.1.length < 32 then R.1 ++ [{ x with q := R.2.2.1 }] else R.1 := by
      rw [restN, hgd, stepR, ← eR]
    rw [← eR] at hvr hvt hml hbr ⊢
    by_cases h0 : 0 < R.2.2.1
    · by_cases h32 : R.1.length < 32
      · have h32' : (R.1.length : Int) < 32 := by omega
        have hs : restN os (i + 1) = R.1 ++ [{ x with q := R.2.2.1 }] := by rw [hst, if_pos ⟨h0, h32⟩]
        obtain ⟨W, eW⟩ : ∃ W, W = H3.set H2.length (.cells [.int .i64 x.id, .int .i64 x.acc, .int .i64 x.inst, .int .i64 x.side, .int .i64 R.2.2.1, .int .i64 x.p] .rw) := ⟨_, rfl⟩
        have cW : Chg [H2.length] H3 W := by rw [eW]; exact .set _ _ _
        have rW : rowOf W H2.length = some [.int .i64 x.id, .int .i64 x.acc, .int .i64 x.inst, .int .i64 x.side, .int .i64 R.2.2.1, .int .i64 x.p] := by rw [eW]; exact rowOf_self (lt_of_get gG3)
        obtain ⟨V2, e2⟩ : ∃ V2, V2 = W ++ [.cells (Od.cs { x with q := R.2.2.1 }) .pl] := ⟨_, rfl⟩
        have cV : Chg [] W V2 := by rw [e2]; exact .app _ _
        have slY : SL V2 6 (.slice (some (W.length, 0)) 1 (some 1) 6) (Od.cs { x with q := R.2.2.1 }) := .at_ W.length 0 1 (some 1) (Od.cs { x with q := R.2.2.1 }) _ (by omega) (by rw [e2]; simp [rowOf]) (by simp [Od.cs]) (by simp [Od.cs]) (by simp)
        have hG1 : H2.length < G.length := lt_of_get gG
        have happ := ((hvr.chg cW (fun b hb' => by have := hbr b hb'; simp; omega)).keep cV).append slY (by_ := 48) (by omega) (by omega) (by simp [Od.cs]) (by simp [room, Od.cs]; omega)
        simp only [Od.cs] at e2
        simp [h0, h32, h32', rG3, rw3]
        rw [← eW]
        simp [rW]
        rw [← e2]
        refine Hx.mapp happ ?_
        rintro ⟨v', H5⟩ ⟨t1, t2, t3⟩
        simp only at t1 t2 t3
        rw [← odsC_snoc, ← hs] at t1
        obtain ⟨av', cv', sv', ev'⟩ := SO.form t1.sl
        subst ev'
        simp [maskS, wi]
        refine ⟨H5, _, ⟨rfl, rfl⟩, t1, fun b hb' => ?_, ?_⟩
        · have h1 := c2.1; have h2 := cG.1; have h3 := c3.1; have h4 := cW.1; have h5 := cV.1
          rcases t3 b hb' with h' | h'
          · have := hbr b h'; omega
          · omega
        · exact (((c2.tr (cG.tr c3)).trans cW (fun i hi => .inr (by simp at hi; have := c2.1; omega))).tr cV).trans t2 (fun i hi => .inr (by have := hbr i hi; have := c2.1; omega))
      · have h32' : ¬ (R.1.length : Int) < 32 := by omega
        have hs : restN os (i + 1) = R.1 := by rw [hst, if_neg (fun h => h32 h.2)]
        simp [h0, h32, h32', maskS, wi]
        exact ⟨H3, _, ⟨rfl, rfl⟩, by rw [hs]; exact hvr, fun b hb' => by have := hbr b hb'; have := cG.1; have := c2.1; omega, c2.tr (cG.tr c3)⟩
    · have hs : restN os (i + 1) = R.1 := by rw [hst, if_neg (fun h => h0 h.1)]
      simp [h0, maskS, wi]
      exact ⟨H3, _, ⟨rfl, rfl⟩, by rw [hs]; exact hvr, fun b hb' => by have := hbr b hb'; have := cG.1; have := c2.1; omega, c2.tr (cG.tr c3)⟩
  · rintro st ⟨H2, v, rfl, hv2, hb2, c2⟩
    obtain ⟨av, cv, sv, ev⟩ := SO.form hv2.sl
    subst ev
    simp
    exact ⟨os, ⟨id, hdr⟩, hlen, hv2, (hd.keep c2).more (by omega), c1.tr c2, fun b hb' => by have := hb2 b hb'; have := c1.1; omega⟩
end
end Go.Proofs.Ytjpmddjibeecbaa.T.Qu
end
section
/-! Arguments of a law: a row of uint64. -/
set_option linter.unusedVariables false
set_option linter.unusedSimpArgs false
namespace Go.Proofs.Ytjpmddjibeecbaa.T
open Go Go.Ab
theorem ar_u64s {m : Nat} {H : AH} {t e : Nat} {ti te : TI} {al : List AV} (h : AR ap m H t al) (ht : ap.ty t = some ti) (htd : ti.td = .slice e) (he : ap.ty e = some te) (hed : te.td = .int .u64) (hes : te.sz = 1) :
    ∃ v L, al = [v] ∧ SL H 1 v (u64s L) ∧ ∀ x ∈ L, U64 x := by
  obtain ⟨v, es, m2, rfl, hs, hx⟩ := ar_slice h ht htd he
  rw [hes] at hs
  obtain ⟨l, hl, hq⟩ := list_choose (R := fun (x : List AV) (a : Int) => x = [.int .u64 a] ∧ U64 a) es (fun x hm => by
    obtain ⟨z, rfl, w⟩ := ar_int (hx x hm).2 he hed
    refine ⟨z, rfl, ?_⟩
    simp [Lit.wf, IntKind.has, IntKind.min, IntKind.max, IntKind.bits, IntKind.signed] at w
    unfold U64; omega)
  have hes : es.flatten = u64s l := by
    have : es = l.map fun a => [AV.int .u64 a] := by
      refine List.ext_getElem? fun i => ?_
      rw [List.getElem?_map]
      by_cases hi : i < es.length
      · have := hq i es[i] l[i] (List.getElem?_eq_getElem hi) (List.getElem?_eq_getElem (by omega))
        rw [List.getElem?_eq_getElem hi, List.getElem?_eq_getElem (by omega), this.1]
        rfl
      · rw [List.getElem?_eq_none (by omega), List.getElem?_eq_none (by omega)]
        rfl
    rw [this]
    unfold u64s
    clear hs hq hl hx this
    induction l with
    | nil => rfl
    | cons x l ih => simp only [List.map_cons, List.flatten_cons, List.singleton_append]; rw [ih]
  refine ⟨v, l, rfl, by rw [hes] at hs; exact hs, fun x hm => ?_⟩
  obtain ⟨i, hi⟩ := List.getElem?_of_mem hm
  have hil : i < l.length := (List.getElem?_eq_some_iff.1 hi).1
  exact (hq i _ _ (List.getElem?_eq_getElem (by omega : i < es.length)) hi).2
theorem wf_u8 {z : Int} (h : (Lit.int .u8 z).wf = true) : 0 ≤ z ∧ z < 256 := by
  simp [Lit.wf, IntKind.has, IntKind.min, IntKind.max, IntKind.bits, IntKind.signed] at h
  omega
theorem wf_i64' {z : Int} (h : (Lit.int .i64 z).wf = true) : I64 z := by
  simp [Lit.wf, IntKind.has, IntKind.min, IntKind.max, IntKind.bits, IntKind.signed] at h
  unfold I64; omega
end Go.Proofs.Ytjpmddjibeecbaa.T
end
section
/-! MatchDrawn. -/
set_option linter.unusedVariables false
set_option linter.unusedSimpArgs false
set_option maxHeartbeats 4000000
set_option maxRecDepth 100000
namespace Go.Proofs.Ytjpmddjibeecbaa.T.Qu
open Go Go.Ab
section
variable {k p n : Nat} {H : AH}
theorem knownK {K : Nat} {H : AH} (h : 0 < K) : callA ap K (.func 8 [] []) [] 0 H = some (.bool true, H) := by
  have := known_ok (k := K - 1) (lo := 0) (H := H)
  rwa [show K - 1 + 1 = K by omega] at this
theorem matchDrawn_ok {v : AV} {L : List Int} (h : SL H 1 v (u64s L)) (hL : ∀ x ∈ L, U64 x) (hk : 1000 < k) : Hx (callA ap k (.func 4 [] []) [v] 0 H) fun r => r.1 = .bool true := by
  obtain ⟨k, rfl⟩ : ∃ k', k = k' + 9 := ⟨k - 9, by omega⟩
  rw [hx_go fn4 rfl, b4]
  have hkn := fun H => knownK (K := k + 8) (H := H) (by omega)
  simp [hkn]
  refine Hx.mapp (of_ok (k := k + 7) h hL) ?_
  rintro ⟨r, H1⟩ ⟨e, d1, c1⟩
  simp only at e d1 c1
  subst e
  obtain ⟨p, hp⟩ : ∃ p, p = H.length := ⟨_, rfl⟩
  rw [← hp] at d1 ⊢
  simp
  refine Hx.mapp (norders_ok (k := k + 8) (most := 32) d1 (by omega) (by omega) (by omega)) ?_
  rintro ⟨v0, H2⟩ ⟨os, id, hv, hdr, hlen, d2, c2, hb⟩
  simp only at hv d2 c2 hb
  obtain ⟨a0, c0, s0, e0⟩ := SO.form hv.sl
  subst e0
  simp
  refine Hx.mapp (n_ok (k := k + 6) d2 (by omega) (m := 6) (by omega) (by omega)) ?_
  rintro ⟨r, H3⟩ ⟨x1, e, hx1, d3, c3⟩
  simp only at e d3 c3
  subst e
  have w1 : IntKind.i64.wrap (1 + x1) = 1 + x1 := wrap_i64 (by omega) (by omega)
  simp [w1]
  refine Hx.mapp (n_ok (k := k + 6) d3 (by omega) (m := 2) (by omega) (by omega)) ?_
  rintro ⟨r, H4⟩ ⟨x2, e, hx2, d4, c4⟩
  simp only at e d4 c4
  subst e
  simp
  refine Hx.mapp (n_ok (k := k + 6) d4 (by omega) (m := 2) (by omega) (by omega)) ?_
  rintro ⟨r, H5⟩ ⟨x3, e, hx3, d5, c5⟩
  simp only at e d5 c5
  subst e
  have w3 : IntKind.i64.wrap (1 + x3) = 1 + x3 := wrap_i64 (by omega) (by omega)
  simp [w3]
  refine Hx.mapp (n_ok (k := k + 6) d5 (by omega) (m := 100) (by omega) (by omega)) ?_
  rintro ⟨r, H6⟩ ⟨x4, e, hx4, d6, c6⟩
  simp only at e d6 c6
  subst e
  have w4 : IntKind.i64.wrap (1 + x4) = 1 + x4 := wrap_i64 (by omega) (by omega)
  simp [w4]
  refine Hx.mapp (n_ok (k := k + 6) d6 (by omega) (m := 20) (by omega) (by omega)) ?_
  rintro ⟨r, H7⟩ ⟨x5, e, hx5, d7, c7⟩
  simp only at e d7 c7
  subst e
  have w5 : IntKind.i64.wrap (90 + x5) = 90 + x5 := wrap_i64 (by omega) (by omega)
  have hp7 : p < H7.length := d7.lt
  have c27 : Chg [p] H2 H7 := c3.tr' (c4.tr' (c5.tr' (c6.tr' c7)))
  have hos7 : SO H7 (.slice a0 os.length c0 s0) os := (hv.chg c27 (fun i hi => by have := hb i hi; have := d1.lt; simp; omega)).sl
  obtain ⟨o, eo⟩ : ∃ o : Od, o = ⟨999, 1 + x1, x2, 1 + x3, 1 + x4, 90 + x5⟩ := ⟨_, rfl⟩
  by_cases h0 : 0 < os.length
  · obtain ⟨G, eG⟩ : ∃ G, G = H7 ++ [.cells o.cs .rw, .cells o.cs .rw] := ⟨_, rfl⟩
    have cG : Chg [] H7 G := by rw [eG]; exact .app _ _
    have rG5 : rowOf G H7.length = some o.cs := by rw [eG]; simp [Od.cs]
    have gG6 : G[H7.length + 1]? = some (.cells o.cs .rw) := by rw [eG]; simp
    have dG := d7.keep cG
    simp only [eo, Od.cs] at eG
    simp [w5, h0]
    rw [← eG]
    refine Hx.mapp (n_ok (k := k + 6) dG (by omega) (m := (os.length : Int)) (by omega) (by omega)) ?_
    rintro ⟨r, H8⟩ ⟨x6, e, hx6, d8, c8⟩
    simp only at e d8 c8
    subst e
    obtain ⟨j, rfl⟩ : ∃ j : Nat, x6 = j := ⟨x6.toNat, by omega⟩
    have hj : j < os.length := by omega
    have hj' : (j : Int) < os.length := by omega
    have hpv : ∀ i ∈ blk (AV.slice a0 os.length c0 s0), i ∉ [p] := fun i hi => by have := hb i hi; have := d1.lt; simp; omega
    have hos8 : SO H8 (.slice a0 os.length c0 s0) os := (((hv.chg c27 hpv).keep cG).chg c8 hpv).sl
    obtain ⟨b, ob, c', r, e, g0, gg⟩ := SO.all hos8 (by intro h; simp [h] at hj)
    injection e with z1 z2 z3 z4
    subst z1 z3 z4
    obtain ⟨g1, g2, -⟩ := gg j hj
    obtain ⟨pp, epp⟩ : ∃ pp, pp = os[j] := ⟨_, rfl⟩
    rw [← epp] at g2
    have gG8 := c8.get gG6 (by simp; omega)
    have rw8 : rowRw H8 0 (H7.length + 1) = some _ := rowRw_rw gG8
    have r58 := c8.row rG5 (by simp; omega)
    obtain ⟨G', eG'⟩ : ∃ G', G' = H8.set (H7.length + 1) (.cells pp.cs .rw) := ⟨_, rfl⟩
    have cG' : Chg [H7.length + 1] H8 G' := by rw [eG']; exact .set _ _ _
    have rG6' : rowOf G' (H7.length + 1) = some pp.cs := by rw [eG']; exact rowOf_self (lt_of_get gG8)
    have rG5' : rowOf G' H7.length = some o.cs := cG'.row r58 (by simp)
    have hbl : ∀ i ∈ blk (AV.slice (some (b, ob)) os.length c0 6), i ∉ [H7.length + 1] := fun i hi => by
      have := hv.lt i hi; have := c27.1; simp; omega
    have hosG' : SO G' (.slice (some (b, ob)) os.length c0 6) os := SL.chg hos8 cG' hbl
    have dG' := d8.chg cG' (by simp; omega)
    simp only [eo, Od.cs] at rw8 g2 eG'
    simp [hj', hj, g0, g1, g2, rw8]
    rw [← eG']
    refine hx_drawn dc4_9 fun X cX _ _ => ?_
    have r5 := cX.row rG5' (by simp)
    have r6 := cX.row rG6' (by simp)
    have hosX := (hosG').keep cX
    have ht := told_ok (k := k + 8) (o := o) (p := pp) hosX (by omega) (by omega)
    simp only [eo, Od.cs] at ht r5 r6
    simp [d4_9, r5, r6]
    refine Hx.mapp ht ?_
    rintro ⟨r, X1⟩ ⟨e, c1'⟩
    simp only at e c1'
    subst e
    have r51 := c1'.row r5 (by simp)
    have r61 := c1'.row r6 (by simp)
    simp [r51, r61]
    refine Hx.mapp (resting_ok (k := k + 8) ((dG'.keep cX).keep c1') (by omega) (by omega)) ?_
    rintro ⟨vr, X2⟩ ⟨os2, id2, hdr2, hlen2, hv2, d2', c2', hb2⟩
    simp only at hv2 d2' c2' hb2
    have r52 := c2'.row r51 (by simp; omega)
    have r62 := c2'.row r61 (by simp; omega)
    obtain ⟨a2, c2'', s2, e2⟩ := SO.form hv2.sl
    have ht2 := told_ok (k := k + 8) (o := o) (p := pp) hv2.sl (by have := restN_len os2 os2.length; omega) (by omega)
    rw [e2] at ht2 ⊢
    simp only [eo, Od.cs] at ht2
    simp [r52, r62]
    refine Hx.mapp ht2 ?_
    rintro ⟨r, X3⟩ ⟨e, c3'⟩
    simp only at e c3'
    subst e
    simp [r52, r62]
  · simp [w5, h0]
    obtain ⟨pp, epp⟩ : ∃ pp : Od, pp = ⟨999, 1 + x1, x2, 1 + x3, 1 + x4, 90 + x5⟩ := ⟨_, rfl⟩
    obtain ⟨G, eG⟩ : ∃ G, G = H7 ++ [.cells o.cs .rw, .cells pp.cs .rw] := ⟨_, rfl⟩
    have cG : Chg [] H7 G := by rw [eG]; exact .app _ _
    have rG5 : rowOf G H7.length = some o.cs := by rw [eG]; simp [Od.cs]
    have rG6 : rowOf G (H7.length + 1) = some pp.cs := by rw [eG]; simp [Od.cs]
    have hosG := hos7.keep cG
    have dG := d7.keep cG
    simp only [eo, epp, Od.cs] at eG
    rw [← eG]
    refine hx_drawn dc4_9 fun X cX _ _ => ?_
    have r5 := cX.row rG5 (by simp)
    have r6 := cX.row rG6 (by simp)
    have hosX := (hosG).keep cX
    have ht := told_ok (k := k + 8) (o := o) (p := pp) hosX (by omega) (by omega)
    simp only [eo, epp, Od.cs] at ht r5 r6
    simp [d4_9, r5, r6]
    refine Hx.mapp ht ?_
    rintro ⟨r, X1⟩ ⟨e, c1'⟩
    simp only at e c1'
    subst e
    have r51 := c1'.row r5 (by simp)
    have r61 := c1'.row r6 (by simp)
    simp [r51, r61]
    refine Hx.mapp (resting_ok (k := k + 8) ((dG.keep cX).keep c1') (by omega) (by omega)) ?_
    rintro ⟨vr, X2⟩ ⟨os2, id2, hdr2, hlen2, hv2, d2', c2', hb2⟩
    simp only at hv2 d2' c2' hb2
    have r52 := c2'.row r51 (by simp; omega)
    have r62 := c2'.row r61 (by simp; omega)
    obtain ⟨a2, c2'', s2, e2⟩ := SO.form hv2.sl
    have ht2 := told_ok (k := k + 8) (o := o) (p := pp) hv2.sl (by have := restN_len os2 os2.length; omega) (by omega)
    rw [e2] at ht2 ⊢
    simp only [eo, epp, Od.cs] at ht2
    simp [r52, r62]
    refine Hx.mapp ht2 ?_
    rintro ⟨r, X3⟩ ⟨e, c3'⟩
    simp only at e c3'
    subst e
    simp [r52, r62]
theorem matchDrawn_main (H : AH) (ass : List (List AV)) (hl : ass.length = [27].length) (ha : ∀ (i : Nat) t al, [27][i]? = some t → ass[i]? = some al → AR ap 6 H t al) :
    Hx (callA ap 2000 (.func 4 [] []) (List.zipWith (argA ap) [27] ass) 0 H) fun r => r.1 = .bool true := by
  match ass, hl with
  | [a0], _ =>
    obtain ⟨v, L, rfl, h0, hL⟩ := ar_u64s (ha 0 27 a0 rfl rfl) ty27 rfl ty48 rfl rfl
    simp only [List.zipWith_cons_cons, List.zipWith_nil_right, argA_one ty27 rfl]
    exact matchDrawn_ok h0 hL (by omega)
end
end Go.Proofs.Ytjpmddjibeecbaa.T.Qu
end
