import Derived.Test.YtinehdoenhodoaaAb26
import Derived.Laws.BitsLemmas
import Derived.Laws.Bits64b
/-! Plain laws of numbers: the zigzag, the bytes of a number, and how they are read. Nothing of the program. -/
set_option linter.unusedVariables false
set_option linter.unusedSimpArgs false
namespace Go.Ab
theorem iand_bits {k : IntKind} {x y : Int} : iand k x y = Go.bits .and k x y := rfl
theorem ior_bits {k : IntKind} {x y : Int} : ior k x y = Go.bits .or k x y := rfl
theorem ixor_bits {k : IntKind} {x y : Int} : ixor k x y = Go.bits .xor k x y := rfl
theorem wu64 (n : Int) : IntKind.u64.wrap n = n % 18446744073709551616 := by simp [IntKind.wrap, IntKind.bits, IntKind.signed]
theorem wraps_u64 (n : Int) (h₀ : 0 ≤ n) (h₁ : n < 2 ^ 64) : IntKind.u64.wrap n = n := by rw [wu64]; omega
theorem or128 (x : Int) : ior .u8 (IntKind.u8.wrap x) 128 = x % 128 + 128 := by
  have key : ∀ a : Fin 256, ior .u8 (a.val : Int) 128 = (a.val : Int) % 128 + 128 := by decide +kernel
  have h := key ⟨(x % 256).toNat, by omega⟩
  have e : (((x % 256).toNat : Nat) : Int) = x % 256 := by omega
  simp only [e] at h
  rw [wrap_u8, h]
  omega
theorem and127_u8 (x : Int) (h0 : 0 ≤ x) (h1 : x < 256) : iand .u8 x 127 = x % 128 := by
  have key : ∀ a : Fin 256, iand .u8 (a.val : Int) 127 = (a.val : Int) % 128 := by decide +kernel
  have h := key ⟨x.toNat, by omega⟩
  have e : ((x.toNat : Nat) : Int) = x := by omega
  simp only [e] at h
  exact h
theorem and127_u64 (x : Int) (h0 : 0 ≤ x) (h1 : x < 18446744073709551616) : iand .u64 x 127 = x % 128 := by
  have := bits_mask .u64 64 (by decide) wraps_u64 7 (by decide) x h0 (by omega)
  simpa [iand_bits] using this
theorem and1_u64 (x : Int) (h0 : 0 ≤ x) (h1 : x < 18446744073709551616) : iand .u64 x 1 = x % 2 := by
  have := bits_mask .u64 64 (by decide) wraps_u64 1 (by decide) x h0 (by omega)
  simpa [iand_bits] using this
theorem or1_u64 (x : Int) (h0 : 0 ≤ x) (h1 : x < 18446744073709551616) (h2 : x % 2 = 0) : ior .u64 x 1 = x + 1 := by
  have := bits_join .u64 64 (by decide) wraps_u64 1 x 1 h0 (by omega) (by omega) (by decide) (by decide) (by decide)
  simpa [ior_bits] using this
theorem xor_all (a : Nat) (ha : a < 2 ^ 64) : a ^^^ 18446744073709551615 = 18446744073709551615 - a := by
  have h : (BitVec.ofNat 64 a ^^^ BitVec.allOnes 64) = ~~~ BitVec.ofNat 64 a := BitVec.xor_allOnes
  have h2 := congrArg BitVec.toNat h
  rw [BitVec.toNat_xor, BitVec.toNat_not, BitVec.toNat_allOnes, BitVec.toNat_ofNat, Nat.mod_eq_of_lt ha] at h2
  exact h2
theorem xor0_u64 (x : Int) (h0 : 0 ≤ x) (h1 : x < 18446744073709551616) : ixor .u64 x 0 = x := by
  obtain ⟨a, rfl⟩ := Int.eq_ofNat_of_zero_le h0
  have h := Go.bits_xor_u64_nat a 0 (by omega) (by decide)
  simpa [ixor_bits] using h
theorem xorm_u64 (x : Int) (h0 : 0 ≤ x) (h1 : x < 18446744073709551616) : ixor .u64 x 18446744073709551615 = 18446744073709551615 - x := by
  obtain ⟨a, rfl⟩ := Int.eq_ofNat_of_zero_le h0
  have ha : a < 2 ^ 64 := by omega
  have h := Go.bits_xor_u64_nat a 18446744073709551615 (by omega) (by decide)
  rw [show ((18446744073709551615 : Nat) : Int) = 18446744073709551615 from rfl] at h
  rw [ixor_bits, h, xor_all a ha]
  omega
theorem xor_i64_nat (a b : Nat) (ha : a < 2 ^ 64) (hb : b < 2 ^ 64) (x y : Int) (hx : BitVec.ofInt 64 x = BitVec.ofNat 64 a) (hy : BitVec.ofInt 64 y = BitVec.ofNat 64 b) : ixor .i64 x y = IntKind.i64.wrap ((a ^^^ b : Nat) : Int) := by
  show IntKind.i64.wrap ((BitVec.ofInt 64 x ^^^ BitVec.ofInt 64 y).toNat : Int) = _
  rw [hx, hy, BitVec.toNat_xor, BitVec.toNat_ofNat, BitVec.toNat_ofNat, Nat.mod_eq_of_lt ha, Nat.mod_eq_of_lt hb]
theorem xor0_i64 (x : Int) (h0 : 0 ≤ x) (h1 : x < 9223372036854775808) : ixor .i64 x 0 = x := by
  obtain ⟨a, rfl⟩ := Int.eq_ofNat_of_zero_le h0
  rw [xor_i64_nat a 0 (by omega) (by decide) a 0 (BitVec.ofInt_natCast ..) (by decide), Nat.xor_zero, wrap_i64 (by omega) (by omega)]
theorem xorm_i64 (x : Int) (h0 : 0 ≤ x) (h1 : x < 9223372036854775808) : ixor .i64 x (-1) = -x - 1 := by
  obtain ⟨a, rfl⟩ := Int.eq_ofNat_of_zero_le h0
  rw [xor_i64_nat a 18446744073709551615 (by omega) (by decide) a (-1) (BitVec.ofInt_natCast ..) (by decide), xor_all a (by omega), IntKind.wrap_i64]
  omega
/-- Disjoint bits. -/
theorem or_high (x y p : Int) (i : Nat) (hi : i ≤ 64) (hp : p = 2 ^ i) (hx0 : 0 ≤ x) (hx : x < p) (hy0 : 0 ≤ y) (hy : y < 18446744073709551616) (hm : y % p = 0) : ior .u64 x y = x + y := by
  subst hp
  have hle : (2 : Int) ^ i ≤ 18446744073709551616 := by
    have h1 : 2 ^ i ≤ 2 ^ 64 := Nat.pow_le_pow_right (by decide) hi
    have h2 : ((2 ^ i : Nat) : Int) ≤ ((2 ^ 64 : Nat) : Int) := Int.ofNat_le.2 h1
    rw [Int.natCast_pow] at h2
    exact h2
  have h := bits_join .u64 64 (by decide) wraps_u64 i y x hy0 hm (by omega) hx0 hx (by omega)
  have hc : ior .u64 x y = Go.bits .or .u64 y x := by
    unfold ior Go.bits
    simp only [BitVec.or_comm]
  rw [hc, h]
  omega

/-- The zigzag. -/
def zig (n : Int) : Int := if 0 ≤ n then 2 * n else -(2 * n) - 1
def unz (u : Int) : Int := if u % 2 = 0 then u / 2 else -(u / 2) - 1
theorem zig_nonneg (n : Int) : 0 ≤ zig n := by unfold zig; split <;> omega
theorem zig_lt (n : Int) (h0 : -9223372036854775808 ≤ n) (h1 : n ≤ 9223372036854775807) : zig n < 18446744073709551616 := by unfold zig; split <;> omega
theorem unz_zig (n : Int) : unz (zig n) = n := by unfold zig unz; split <;> split <;> omega
theorem zig_unz (u : Int) (h : 0 ≤ u) : zig (unz u) = u := by unfold zig unz; split <;> split <;> omega
theorem unz_range (u : Int) (h0 : 0 ≤ u) (h1 : u < 18446744073709551616) : -9223372036854775808 ≤ unz u ∧ unz u ≤ 9223372036854775807 := by unfold unz; split <;> omega
theorem shl1 (x : Int) : ishl .u64 x 1 = (x * 2) % 18446744073709551616 := by
  unfold ishl
  rw [wu64]
  rfl
theorem shr1 (x : Int) : ishr .u64 x 1 = x / 2 := by
  show x.fdiv 2 = x / 2
  rw [Int.fdiv_eq_ediv_of_nonneg _ (by decide)]
theorem shr7 (x : Int) : ishr .u64 x 7 = x / 128 := by
  show x.fdiv 128 = x / 128
  rw [Int.fdiv_eq_ediv_of_nonneg _ (by decide)]
theorem shr63 (x : Int) : ishr .i64 x 63 = x / 9223372036854775808 := by
  show x.fdiv 9223372036854775808 = x / 9223372036854775808
  rw [Int.fdiv_eq_ediv_of_nonneg _ (by decide)]
/-- As the program makes it. -/
theorem zig_go (n : Int) (h0 : -9223372036854775808 ≤ n) (h1 : n ≤ 9223372036854775807) :
    ixor .u64 (ishl .u64 (IntKind.u64.wrap n) 1) (IntKind.u64.wrap (ishr .i64 n 63)) = zig n := by
  rw [shl1, shr63]
  simp only [wu64]
  by_cases h : 0 ≤ n
  · have e1 : n / 9223372036854775808 % 18446744073709551616 = 0 := by omega
    rw [e1, xor0_u64 _ (by omega) (by omega)]
    unfold zig; rw [if_pos h]; omega
  · have e1 : n / 9223372036854775808 % 18446744073709551616 = 18446744073709551615 := by omega
    rw [e1, xorm_u64 _ (by omega) (by omega)]
    unfold zig; rw [if_neg h]; omega
/-- As the reference makes it. -/
theorem zig_ref_neg (n : Int) (h0 : -9223372036854775808 ≤ n) (h1 : n < 0) :
    ior .u64 (ishl .u64 (IntKind.u64.wrap (IntKind.i64.wrap (-(IntKind.i64.wrap (n + 1))))) 1) 1 = zig n := by
  rw [wrap_i64 (x := n + 1) (by omega) (by omega), wrap_i64 (by omega) (by omega), shl1]
  simp only [wu64]
  have e2 : -(n + 1) % 18446744073709551616 * 2 % 18446744073709551616 = 2 * (-(n + 1)) := by omega
  rw [e2, or1_u64 _ (by omega) (by omega) (by omega)]
  unfold zig; rw [if_neg (by omega)]; omega
theorem zig_ref_pos (n : Int) (h0 : 0 ≤ n) (h1 : n ≤ 9223372036854775807) : ishl .u64 (IntKind.u64.wrap n) 1 = zig n := by
  rw [shl1]
  simp only [wu64]
  unfold zig; rw [if_pos h0]; omega
/-- As the program takes it back. -/
theorem unz_go (v : Int) (h0 : 0 ≤ v) (h1 : v < 18446744073709551616) : ixor .i64 (IntKind.i64.wrap (ishr .u64 v 1)) (IntKind.i64.wrap (-(IntKind.i64.wrap (iand .u64 v 1)))) = unz v := by
  rw [and1_u64 v h0 h1, shr1]
  have e1 : IntKind.i64.wrap (v / 2) = v / 2 := wrap_i64 (by omega) (by omega)
  rw [e1]
  unfold unz
  by_cases h : v % 2 = 0
  · have e2 : IntKind.i64.wrap (-(IntKind.i64.wrap (v % 2))) = 0 := by rw [h]; decide
    rw [if_pos h, e2, xor0_i64 _ (by omega) (by omega)]
  · have e3 : v % 2 = 1 := by omega
    have e2 : IntKind.i64.wrap (-(IntKind.i64.wrap (v % 2))) = -1 := by rw [e3]; decide
    rw [if_neg h, e2, xorm_i64 _ (by omega) (by omega)]
theorem unz_ref_odd (v : Int) (h0 : 0 ≤ v) (h1 : v < 18446744073709551616) (h : iand .u64 v 1 = 1) : IntKind.i64.wrap (IntKind.i64.wrap (-(IntKind.i64.wrap (ishr .u64 v 1))) - 1) = unz v := by
  rw [and1_u64 v h0 h1] at h
  rw [shr1, wrap_i64 (x := v / 2) (by omega) (by omega), wrap_i64 (x := -(v / 2)) (by omega) (by omega), wrap_i64 (by omega) (by omega)]
  unfold unz; rw [if_neg (by omega)]
theorem unz_ref_even (v : Int) (h0 : 0 ≤ v) (h1 : v < 18446744073709551616) (h : ¬ iand .u64 v 1 = 1) : IntKind.i64.wrap (ishr .u64 v 1) = unz v := by
  rw [and1_u64 v h0 h1] at h
  rw [shr1, wrap_i64 (x := v / 2) (by omega) (by omega)]
  unfold unz; rw [if_pos (by omega)]

/-- A number's bytes, at most f + 1 of them. -/
def vb : Nat → Int → List Int
  | 0, u => [u]
  | f + 1, u => if u > 127 then (u % 128 + 128) :: vb f (u / 128) else [u]
theorem vb_pos (f : Nat) (u : Int) : 0 < (vb f u).length := by
  cases f <;> simp only [vb]
  · simp
  · split <;> simp
theorem vb_le (f : Nat) : ∀ u, (vb f u).length ≤ f + 1 := by
  induction f with
  | zero => intro u; simp [vb]
  | succ f ih =>
    intro u
    simp only [vb]
    split
    · have := ih (u / 128); simp; omega
    · simp
/-- 128 to the f + 1. -/
def pw : Nat → Int
  | 0 => 128
  | f + 1 => pw f * 128
theorem pw_succ (f : Nat) : pw (f + 1) = pw f * 128 := rfl
theorem pw_nine : pw 9 = 1180591620717411303424 := rfl
theorem vb_byte (f : Nat) : ∀ u, 0 ≤ u → u < pw f → Byt (vb f u) := by
  induction f with
  | zero =>
    intro u h0 h1 x hx
    simp [vb] at hx
    subst hx
    simp only [pw] at h1
    omega
  | succ f ih =>
    intro u h0 h1 x hx
    rw [pw_succ] at h1
    simp only [vb] at hx
    split at hx
    · rcases List.mem_cons.1 hx with rfl | hx
      · omega
      · exact ih (u / 128) (by omega) (by omega) x hx
    · simp at hx; subst hx; omega
/-- What an int64 can hold. -/
def I64 (n : Int) : Prop := -9223372036854775808 ≤ n ∧ n ≤ 9223372036854775807
/-- A number's bytes. -/
def enc (n : Int) : List Int := vb 9 (zig n)
theorem enc_len (n : Int) : 0 < (enc n).length ∧ (enc n).length ≤ 10 := ⟨vb_pos _ _, vb_le _ _⟩
theorem enc_byt {n : Int} (h : I64 n) : Byt (enc n) := vb_byte 9 (zig n) (zig_nonneg n) (by have := zig_lt n h.1 h.2; rw [pw_nine]; omega)
/-- 2 to the 7 i. -/
def pp : Nat → Int
  | 0 => 1
  | i + 1 => pp i * 128
theorem pp_eq (i : Nat) : pp i = 2 ^ (7 * i) := by
  induction i with
  | zero => rfl
  | succ i ih =>
    show pp i * 128 = _
    rw [ih, show 7 * (i + 1) = 7 * i + 7 by omega, Int.pow_add]
    rfl
theorem pp_pos (i : Nat) : 0 < pp i := by rw [pp_eq]; exact Int.pow_pos (by decide)
theorem split7 (u p : Int) : u % 128 * p + u / 128 * (p * 128) = u * p := by
  have h3 : u % 128 + 128 * (u / 128) = u := Int.emod_add_mul_ediv ..
  have h4 : u % 128 * p + u / 128 * (p * 128) = (u % 128 + 128 * (u / 128)) * p := by
    rw [Int.add_mul]
    congr 1
    rw [Int.mul_comm 128 (u / 128), Int.mul_assoc, Int.mul_comm 128 p]
  rw [h4, h3]
/-- Seven bits more. -/
def more (i : Nat) (x c : Int) : Int := x + (c % 128 * pp i) % 18446744073709551616
theorem pp_dvd {i : Nat} (hi : i ≤ 9) : ∃ q : Int, 18446744073709551616 = pp i * q := by
  refine ⟨2 ^ (64 - 7 * i), ?_⟩
  rw [pp_eq, ← Int.pow_add, show 7 * i + (64 - 7 * i) = 64 by omega]
  rfl
theorem pp_le {i : Nat} (hi : i ≤ 9) : pp i ≤ 9223372036854775808 := by
  rw [pp_eq]
  have h1 : 2 ^ (7 * i) ≤ 2 ^ 63 := Nat.pow_le_pow_right (by decide) (by omega)
  have h2 : ((2 ^ (7 * i) : Nat) : Int) ≤ ((2 ^ 63 : Nat) : Int) := Int.ofNat_le.2 h1
  rw [Int.natCast_pow] at h2
  exact h2
theorem more_hi {i : Nat} (hi : i ≤ 9) {x c : Int} (hx0 : 0 ≤ x) (hx : x < pp i) : 0 ≤ more i x c ∧ more i x c < 18446744073709551616 := by
  have hp := pp_pos i
  have hm : ((c % 128 * pp i) % 18446744073709551616) % pp i = 0 := by
    rw [Int.emod_emod_of_dvd _ (pp_dvd hi), Int.mul_emod_left]
  have h0 : 0 ≤ (c % 128 * pp i) % 18446744073709551616 := Int.emod_nonneg _ (by decide)
  have h1 : (c % 128 * pp i) % 18446744073709551616 < 18446744073709551616 := Int.emod_lt_of_pos _ (by decide)
  unfold more
  refine ⟨by omega, ?_⟩
  generalize (c % 128 * pp i) % 18446744073709551616 = y at hm h0 h1
  obtain ⟨q, e⟩ := pp_dvd hi
  have d1 : pp i ∣ 18446744073709551616 - y := Int.dvd_sub ⟨q, e⟩ (Int.dvd_of_emod_eq_zero hm)
  have := Int.le_of_dvd (by omega) d1
  omega
theorem more_small {i : Nat} (hi : i ≤ 8) (x : Int) {c : Int} : more i x c = x + c % 128 * pp i := by
  have hp := pp_pos i
  have h1 : pp i ≤ 72057594037927936 := by
    rw [pp_eq]
    have h1 : 2 ^ (7 * i) ≤ 2 ^ 56 := Nat.pow_le_pow_right (by decide) (by omega)
    have h2 : ((2 ^ (7 * i) : Nat) : Int) ≤ ((2 ^ 56 : Nat) : Int) := Int.ofNat_le.2 h1
    rw [Int.natCast_pow] at h2
    exact h2
  have h5 : c % 128 * pp i ≤ 127 * pp i := Int.mul_le_mul_of_nonneg_right (by omega) (by omega)
  have hge : 0 ≤ c % 128 * pp i := Int.mul_nonneg (by omega) (by omega)
  unfold more
  rw [Int.emod_eq_of_lt hge (by omega)]
theorem more_lt {i : Nat} (hi : i ≤ 8) {x c : Int} (hx0 : 0 ≤ x) (hx : x < pp i) : 0 ≤ more i x c ∧ more i x c < pp (i + 1) := by
  have hp := pp_pos i
  have h5 : c % 128 * pp i ≤ 127 * pp i := Int.mul_le_mul_of_nonneg_right (by omega) (by omega)
  have hge : 0 ≤ c % 128 * pp i := Int.mul_nonneg (by omega) (by omega)
  have hp1 : pp (i + 1) = pp i * 128 := rfl
  rw [more_small hi, hp1]
  omega
/-- As both make it. -/
theorem or_step {i : Nat} (hi : i ≤ 9) {x c : Int} (hx0 : 0 ≤ x) (hx : x < pp i) (hc0 : 0 ≤ c) (hc : c < 256) {z : Int} (hz : z = 7 * (i : Int)) :
    ior .u64 x (ishl .u64 (IntKind.u64.wrap (iand .u8 c 127)) z) = more i x c := by
  subst hz
  have hs : ishl .u64 (IntKind.u64.wrap (iand .u8 c 127)) (7 * (i : Int)) = (c % 128 * pp i) % 18446744073709551616 := by
    rw [and127_u8 c hc0 hc, wu64, Int.emod_eq_of_lt (a := c % 128) (by omega) (by omega)]
    unfold ishl
    have e2 : min (7 * (i : Int)).toNat IntKind.u64.bits = 7 * i := by
      simp [IntKind.bits]; omega
    rw [e2, wu64, pp_eq]
  rw [hs]
  have hm : ((c % 128 * pp i) % 18446744073709551616) % pp i = 0 := by
    rw [Int.emod_emod_of_dvd _ (pp_dvd hi), Int.mul_emod_left]
  exact or_high x _ (pp i) (7 * i) (by omega) (pp_eq i) hx0 hx (Int.emod_nonneg _ (by decide)) (Int.emod_lt_of_pos _ (by decide)) hm
/-- A number is read, from byte i on; x is what there is yet. st: each number in just one way. -/
def rdn (st : Bool) : List Int → Nat → Int → Option (Int × Nat)
  | [], _, _ => none
  | c :: l, i, x => if 10 ≤ i then none else if st = true ∧ (i = 9 ∧ 1 < c ∨ c = 0 ∧ 0 < i) then none else if c < 128 then some (unz (more i x c), i + 1) else rdn st l (i + 1) (more i x c)
theorem rdn_ten (st : Bool) (l : List Int) {i : Nat} (hi : 10 ≤ i) (x : Int) : rdn st l i x = none := by
  cases l with
  | nil => rfl
  | cons c l => simp only [rdn]; rw [if_pos hi]
theorem rdn_strict : ∀ (l : List Int) (i : Nat) (x : Int) (r : Int × Nat), rdn true l i x = some r → rdn false l i x = some r
  | [], _, _, _, h => by cases h
  | c :: l, i, x, r, h => by
    simp only [rdn] at h ⊢
    split at h
    · cases h
    rename_i h1
    rw [if_neg h1]
    split at h
    · cases h
    rw [if_neg (by simp)]
    split at h
    · rename_i h3; rw [if_pos h3]; exact h
    · rename_i h3; rw [if_neg h3]; exact rdn_strict l _ _ _ h
/-- How far it goes. -/
theorem rdn_far (st : Bool) : ∀ (l : List Int) (i : Nat) (x : Int) (v : Int) (k : Nat), rdn st l i x = some (v, k) → 0 ≤ x → x < pp i → i < k ∧ k ≤ i + l.length ∧ k ≤ 10 ∧ I64 v
  | [], _, _, _, _, h, _, _ => by cases h
  | c :: l, i, x, v, k, h, h0, h1 => by
    simp only [rdn] at h
    split at h
    · cases h
    rename_i h2
    split at h
    · cases h
    split at h
    · have hm := more_hi (i := i) (by omega) (c := c) h0 h1
      have hu := unz_range _ hm.1 hm.2
      injection h with h
      injection h with e1 e2
      subst e1 e2
      simp only [List.length_cons]
      exact ⟨by omega, by omega, by omega, hu⟩
    · by_cases h9 : i ≤ 8
      · have hm := more_lt h9 (c := c) h0 h1
        have := rdn_far st l (i + 1) _ v k h hm.1 hm.2
        simp only [List.length_cons]
        exact ⟨by omega, by omega, this.2.2.1, this.2.2.2⟩
      · rw [rdn_ten st l (by omega)] at h
        cases h
theorem rdn_enc (st : Bool) (f : Nat) : ∀ (i : Nat) (x u : Int) (rest : List Int), f + i = 9 → 0 ≤ u → u < pw f → (0 < i → 0 < u) → x + u * pp i < 18446744073709551616 → 0 ≤ x → x < pp i →
    rdn st (vb f u ++ rest) i x = some (unz (x + u * pp i), i + (vb f u).length) := by
  induction f with
  | zero =>
    intro i x u rest hf h0 h1 hz h2 hx0 hx1
    obtain rfl : i = 9 := by clear h0 h1 h2 hx0 hx1 hz; omega
    have h99 : pp 9 = 9223372036854775808 := by decide
    simp only [pw] at h1
    rw [h99] at h2
    have hu : u ≤ 1 := by omega
    simp only [vb, List.cons_append, rdn]
    rw [if_neg (by omega), if_neg (by have := hz (by omega); omega), if_pos (by omega)]
    unfold more
    rw [h99, Int.emod_eq_of_lt (a := u) (by omega) (by omega), Int.emod_eq_of_lt (b := 18446744073709551616) (by omega) (by omega)]
    simp
  | succ f ih =>
    intro i x u rest hf h0 h1 hz h2 hx0 hx1
    have hi8 : i ≤ 8 := by clear h0 h1 h2 hx0 hx1; omega
    rw [pw_succ] at h1
    have hpp := pp_pos i
    simp only [vb]
    by_cases hu : u > 127
    · rw [if_pos hu]
      have hm : (u % 128 + 128) % 128 = u % 128 := by omega
      have hs := split7 u (pp i)
      have hp1 : pp (i + 1) = pp i * 128 := rfl
      have h5 : u % 128 * pp i ≤ 127 * pp i := Int.mul_le_mul_of_nonneg_right (by omega) (by omega)
      have hge : 0 ≤ (u % 128) * pp i := Int.mul_nonneg (by omega) (by omega)
      simp only [List.cons_append, rdn]
      rw [if_neg (by clear h2 hs h5; omega), if_neg (by clear h2 hs h5; omega), if_neg (by clear h2 hs h5; omega), more_small hi8, hm]
      rw [ih (i + 1) (x + u % 128 * pp i) (u / 128) rest (by clear h2 hs h5; omega) (by clear h2 hs h5; omega) (by clear h2 hs h5; omega) (fun _ => by clear h2 hs h5; omega) (by rw [hp1]; clear h5 hge h1 hx0 hx1; omega) (by clear hs h5 h2; omega) (by rw [hp1]; clear hs h2; omega), hp1]
      rw [show x + u % 128 * pp i + u / 128 * (pp i * 128) = x + u * pp i by omega, List.length_cons, show i + 1 + (vb f (u / 128)).length = i + ((vb f (u / 128)).length + 1) by omega]
    · rw [if_neg hu]
      simp only [List.cons_append, rdn]
      rw [if_neg (by clear h2; omega), if_neg (fun h => by clear h2 h1 hx0 hx1; rcases h.2 with h | h; omega; have := hz h.2; omega), if_pos (by clear h2; omega), more_small hi8, Int.emod_eq_of_lt h0 (by clear h2; omega)]
      rfl
theorem rdn_one (st : Bool) {v : Int} (hv : I64 v) (rest : List Int) : rdn st (enc v ++ rest) 0 0 = some (v, (enc v).length) := by
  have := zig_lt v hv.1 hv.2
  have h := rdn_enc st 9 0 0 (zig v) rest rfl (zig_nonneg v) (by rw [pw_nine]; omega) (by omega) (by simp only [pp]; omega) (by omega) (by decide)
  simp [pp, unz_zig] at h
  exact h
theorem rdn_any (f : Nat) : ∀ (l : List Int) (i : Nat) (x v : Int) (k : Nat), Byt l → f + i = 9 → 0 ≤ x → x < pp i → rdn true l i x = some (v, k) →
    ∃ u, 0 ≤ u ∧ (0 < i → 0 < u) ∧ v = unz (x + u * pp i) ∧ k = i + (vb f u).length ∧ l = vb f u ++ l.drop (vb f u).length := by
  induction f with
  | zero =>
    intro l i x v k hB hf hx0 hx1 h
    obtain rfl : i = 9 := by omega
    cases l with
    | nil => cases h
    | cons c l =>
      have hc := hB c (List.mem_cons_self ..)
      simp only [rdn] at h
      rw [if_neg (by omega)] at h
      split at h
      · cases h
      rename_i h2
      have hc1 : 0 < c ∧ c ≤ 1 := by simp at h2; omega
      rw [if_pos (by omega)] at h
      injection h with h
      injection h with e1 e2
      have h99 : pp 9 = 9223372036854775808 := by decide
      refine ⟨c, by omega, fun _ => by omega, ?_, by simp [vb, ← e2], by simp [vb]⟩
      rw [← e1]
      unfold more
      rw [h99, Int.emod_eq_of_lt (a := c) (by omega) (by omega), Int.emod_eq_of_lt (b := 18446744073709551616) (by omega) (by omega)]
  | succ f ih =>
    intro l i x v k hB hf hx0 hx1 h
    cases l with
    | nil => cases h
    | cons c l =>
      have hc := hB c (List.mem_cons_self ..)
      have hi8 : i ≤ 8 := by omega
      simp only [rdn] at h
      rw [if_neg (by omega)] at h
      split at h
      · cases h
      rename_i h2
      have h2' : ¬ (c = 0 ∧ 0 < i) := by simp at h2; omega
      split at h
      · rename_i h3
        injection h with h
        injection h with e1 e2
        rw [more_small hi8, Int.emod_eq_of_lt hc.1 h3] at e1
        have hv : vb (f + 1) c = [c] := by simp only [vb]; rw [if_neg (by omega)]
        exact ⟨c, hc.1, fun _ => by omega, e1.symm, by rw [hv, ← e2]; rfl, by rw [hv]; rfl⟩
      · have hm := more_lt hi8 (c := c) hx0 hx1
        obtain ⟨u, g0, g1, g2, g3, g4⟩ := ih l (i + 1) _ v k (fun y hy => hB y (List.mem_cons_of_mem _ hy)) (by omega) hm.1 hm.2 h
        have g1 := g1 (by omega)
        have hp1 : pp (i + 1) = pp i * 128 := rfl
        have hv : vb (f + 1) (c % 128 + 128 * u) = c :: vb f u := by
          simp only [vb]
          rw [if_pos (by omega), show (c % 128 + 128 * u) % 128 + 128 = c by omega, show (c % 128 + 128 * u) / 128 = u by omega]
        refine ⟨c % 128 + 128 * u, by omega, fun _ => by omega, ?_, ?_, ?_⟩
        · rw [g2, more_small hi8, hp1, Int.add_mul, show 128 * u * pp i = u * (pp i * 128) by rw [Int.mul_comm 128 u, Int.mul_assoc, Int.mul_comm 128], Int.add_assoc]
        · rw [hv, g3, List.length_cons]; omega
        · rw [hv, List.length_cons, List.drop_succ_cons, List.cons_append, ← g4]
/-- What is read in just one way is one's own bytes. -/
theorem rdn_own {l : List Int} (hB : Byt l) {v : Int} {k : Nat} (h : rdn true l 0 0 = some (v, k)) : I64 v ∧ k = (enc v).length ∧ l = enc v ++ l.drop k := by
  obtain ⟨u, g0, _, g2, g3, g4⟩ := rdn_any 9 l 0 0 v k hB rfl (Int.le_refl 0) (by decide) h
  have hv : v = unz u := by simpa [pp] using g2
  have he : enc v = vb 9 u := by unfold enc; rw [hv, zig_unz u g0]
  rw [Nat.zero_add] at g3
  refine ⟨(rdn_far true l 0 0 v k h (Int.le_refl 0) (by decide)).2.2.2, by rw [he, g3], ?_⟩
  rw [he, g3]; exact g4
end Go.Ab
