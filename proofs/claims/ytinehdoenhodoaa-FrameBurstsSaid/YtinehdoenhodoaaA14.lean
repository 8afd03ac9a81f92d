import Derived.Test.YtinehdoenhodoaaA8
import Derived.Test.YtinehdoenhodoaaAbK
import Derived.Test.YtinehdoenhodoaaN2
import Derived.Test.YtinehdoenhodoaaCrc
/-! The sum of bytes as a register: a record of which some bits within 32 in a row were turned is none. -/
set_option linter.unusedVariables false
set_option linter.unusedSimpArgs false
set_option maxHeartbeats 4000000
set_option maxRecDepth 100000
namespace Go.Proofs.Ytinehdoenhodoaa.T.Fm
open Go Go.Ab
theorem ofI (s : BitVec 32) : BitVec.ofInt 32 (s.toNat : Int) = s := by
  apply BitVec.eq_of_toNat_eq
  rw [BitVec.toNat_ofInt]
  have := s.isLt
  omega
theorem wrapN (n : Nat) (h : n < 4294967296) : IntKind.u32.wrap (n : Int) = (n : Int) := by rw [wrap_u32]; omega
theorem ixorB (a b : BitVec 32) : ixor .u32 (a.toNat : Int) (b.toNat : Int) = ((a ^^^ b).toNat : Int) := by
  unfold ixor
  show IntKind.u32.wrap ((BitVec.ofInt 32 (a.toNat : Int) ^^^ BitVec.ofInt 32 (b.toNat : Int)).toNat : Nat) = _
  rw [ofI, ofI]
  exact wrapN _ (BitVec.isLt _)
theorem ishrB (a : BitVec 32) (n : Nat) (hn : n ≤ 32) : ishr .u32 (a.toNat : Int) n = ((a >>> n).toNat : Int) := by
  rw [ishr_nat _ _ hn, BitVec.toNat_ushiftRight, Nat.shiftRight_eq_div_pow]
theorem iandB (a : BitVec 32) : (iand .u32 (a.toNat : Int) 1 = 1) ↔ a.getLsbD 0 = true := by
  unfold iand
  show IntKind.u32.wrap ((BitVec.ofInt 32 (a.toNat : Int) &&& BitVec.ofInt 32 1).toNat : Nat) = 1 ↔ _
  rw [ofI, wrapN _ (BitVec.isLt _), BitVec.toNat_and]
  have h1 : (BitVec.ofInt 32 1).toNat = 1 := by decide
  rw [h1, Nat.and_one_is_mod]
  have : a.getLsbD 0 = decide (a.toNat % 2 = 1) := by
    show a.toNat.testBit 0 = _
    rw [Nat.testBit_zero]
  rw [this, decide_eq_true_iff]
  omega
theorem crcBit_tb (s : BitVec 32) : crcBit (s.toNat : Int) = ((tb s).toNat : Int) := by
  have h1 : ishr .u32 (s.toNat : Int) 1 = ((s >>> 1).toNat : Int) := ishrB s 1 (by omega)
  have hp : (3988292384 : Int) = ((0xedb88320#32).toNat : Int) := by decide
  unfold crcBit tb
  rw [h1]
  cases h0 : s.getLsbD 0 with
  | true => rw [if_pos ((iandB s).2 h0), if_pos rfl, hp, ixorB]
  | false => rw [if_neg (fun h => by rw [(iandB s).1 h] at h0; cases h0), if_neg (by simp), BitVec.xor_zero]
theorem iter_tbs (s : BitVec 32) : ∀ n, iter8 crcBit n (s.toNat : Int) = ((tbs n s).toNat : Int)
  | 0 => rfl
  | n + 1 => by simp only [iter8, tbs]; rw [iter_tbs s n, crcBit_tb]
theorem crcByte_reg (s : BitVec 32) (x : Int) : crcByte (s.toNat : Int) x = ((tbs 8 (s ^^^ BitVec.ofInt 32 x)).toNat : Int) := by
  have hx : IntKind.u32.wrap x = ((BitVec.ofInt 32 x).toNat : Int) := by
    rw [wrap_u32, BitVec.toNat_ofInt]
    omega
  unfold crcByte
  rw [hx, ixorB, iter_tbs]
def ones : BitVec 32 := 4294967295#32
theorem crcTo_reg (bs : List Int) : ∀ n, n ≤ bs.length → crcTo bs n = ((reg ones (bs.take n)).toNat : Int)
  | 0, _ => by simp [crcTo, reg, ones]
  | n + 1, h => by
    simp only [crcTo]
    rw [crcTo_reg bs n (by omega), crcByte_reg, List.take_add_one, List.getElem?_eq_getElem (by omega), reg_app]
    simp only [Option.toList_some, reg]
    rw [List.getD_eq_getElem?_getD, List.getElem?_eq_getElem (by omega)]
    rfl
theorem crcL_reg (bs : List Int) : crcL bs = ((ones ^^^ reg ones bs).toNat : Int) := by
  unfold crcL
  rw [crcTo_reg bs _ (Nat.le_refl _), List.take_length]
  have : (4294967295 : Int) = (ones.toNat : Int) := by decide
  rw [this, ixorB]
theorem b255 (j : Nat) : (255#32).getLsbD j = decide (j < 8) := by
  by_cases h : j < 8
  · have : j = 0 ∨ j = 1 ∨ j = 2 ∨ j = 3 ∨ j = 4 ∨ j = 5 ∨ j = 6 ∨ j = 7 := by omega
    rcases this with rfl | rfl | rfl | rfl | rfl | rfl | rfl | rfl <;> rfl
  · rw [decide_eq_false h]
    show Nat.testBit 255 j = false
    exact Nat.testBit_lt_two_pow (Nat.lt_of_lt_of_le (by decide : 255 < 2 ^ 8) (Nat.pow_le_pow_right (by omega) (by omega)))
theorem bones {j : Nat} (h : j < 32) : ones.getLsbD j = true := by
  have : ∀ j : Fin 32, ones.getLsbD j.val = true := by decide
  exact this ⟨j, h⟩
theorem tbs_shift (s : BitVec 32) : ∀ n, n ≤ 8 → (∀ j, j < n → s.getLsbD j = false) → tbs n s = s >>> n
  | 0, _, _ => by simp [tbs]
  | n + 1, hn, h => by
    simp only [tbs]
    rw [tbs_shift s n (by omega) (fun j hj => h j (by omega))]
    unfold tb
    have h0 : (s >>> n).getLsbD 0 = false := by rw [BitVec.getLsbD_ushiftRight]; exact h n (by omega)
    rw [h0, if_neg (by simp), BitVec.xor_zero]
    apply BitVec.eq_of_getLsbD_eq
    intro i hi
    simp only [BitVec.getLsbD_ushiftRight]
    congr 1
    omega
theorem step_low (d K : BitVec 32) : tbs 8 ((d ^^^ K) ^^^ ((ones ^^^ d) &&& 255#32)) = (d >>> 8) ^^^ tbs 8 (K ^^^ 255#32) := by
  have e : (d ^^^ K) ^^^ ((ones ^^^ d) &&& 255#32) = (d ^^^ (d &&& 255#32)) ^^^ (K ^^^ 255#32) := by
    apply BitVec.eq_of_getLsbD_eq
    intro i hi
    simp only [BitVec.getLsbD_xor, BitVec.getLsbD_and, b255, bones hi]
    cases d.getLsbD i <;> cases K.getLsbD i <;> cases decide (i < 8) <;> rfl
  rw [e, tbs_xor, tbs_shift _ 8 (Nat.le_refl _) (fun j hj => by
    simp only [BitVec.getLsbD_xor, BitVec.getLsbD_and, b255, decide_eq_true hj]; simp)]
  congr 1
  apply BitVec.eq_of_getLsbD_eq
  intro i hi
  have : decide (8 + i < 8) = false := decide_eq_false (by omega)
  simp only [BitVec.getLsbD_ushiftRight, BitVec.getLsbD_xor, BitVec.getLsbD_and, b255, this]
  simp
theorem low_byte (c : BitVec 32) (i : Nat) (hi : i ≤ 24) : BitVec.ofInt 32 (IntKind.u8.wrap (((ones ^^^ c).toNat / 2 ^ i : Nat) : Int)) = (ones ^^^ (c >>> i)) &&& 255#32 := by
  have e : (ones ^^^ (c >>> i)) &&& 255#32 = ((ones ^^^ c) >>> i) &&& 255#32 := by
    apply BitVec.eq_of_getLsbD_eq
    intro j hj
    simp only [BitVec.getLsbD_and, BitVec.getLsbD_xor, BitVec.getLsbD_ushiftRight, b255]
    by_cases h : j < 8
    · rw [bones hj, bones (by omega : i + j < 32)]
    · simp [h]
  rw [e]
  apply BitVec.eq_of_toNat_eq
  rw [BitVec.toNat_ofInt, BitVec.toNat_and, BitVec.toNat_ushiftRight, Nat.shiftRight_eq_div_pow, wrap_u8]
  have h1 : (255#32).toNat = 2 ^ 8 - 1 := by decide
  rw [h1, Nat.and_two_pow_sub_one_eq_mod]
  omega
def resid : BitVec 32 := tbs 8 (tbs 8 (tbs 8 (tbs 8 (0#32 ^^^ 255#32) ^^^ 255#32) ^^^ 255#32) ^^^ 255#32)
theorem low4_bytes (n : Nat) : low4 (n : Int) = [IntKind.u8.wrap ((n / 2 ^ 0 : Nat) : Int), IntKind.u8.wrap ((n / 2 ^ 8 : Nat) : Int), IntKind.u8.wrap ((n / 2 ^ 16 : Nat) : Int), IntKind.u8.wrap ((n / 2 ^ 24 : Nat) : Int)] := by
  have h8 : ishr .u32 (n : Int) 8 = ((n / 2 ^ 8 : Nat) : Int) := ishr_nat n 8 (by omega)
  have h16 : ishr .u32 (n : Int) 16 = ((n / 2 ^ 16 : Nat) : Int) := ishr_nat n 16 (by omega)
  have h24 : ishr .u32 (n : Int) 24 = ((n / 2 ^ 24 : Nat) : Int) := ishr_nat n 24 (by omega)
  unfold low4
  rw [h8, h16, h24]
  simp
/-- Bytes with their own sum behind leave always the same. -/
theorem reg_own (M : List Int) : reg ones (M ++ low4 (crcL M)) = resid := by
  rw [reg_app, crcL_reg, low4_bytes]
  generalize reg ones M = c
  simp only [reg]
  have b0 := low_byte c 0 (by omega)
  have b1 := low_byte c 8 (by omega)
  have b2 := low_byte c 16 (by omega)
  have b3 := low_byte c 24 (by omega)
  rw [b0, b1, b2, b3]
  have e0 : c >>> 0 = c := by simp
  rw [e0]
  have s0 := step_low c 0#32
  rw [BitVec.xor_zero] at s0
  rw [s0, step_low]
  have sh : ∀ n : Nat, (c >>> n) >>> 8 = c >>> (n + 8) := fun n => by
    apply BitVec.eq_of_getLsbD_eq
    intro i hi
    simp only [BitVec.getLsbD_ushiftRight]
    congr 1
    omega
  rw [sh 8, step_low, sh 16, step_low, sh 24]
  have z : c >>> (24 + 8) = 0#32 := by
    apply BitVec.eq_of_getLsbD_eq
    intro i hi
    simp only [BitVec.getLsbD_ushiftRight]
    rw [BitVec.getLsbD_of_ge _ _ (by omega)]
    simp
  rw [z, BitVec.zero_xor]
  rfl
/-- What is read leaves that too. -/
theorem nxt_reg {t : List Int} (hl : t.length = hdN t + 6) (h : (nxt t).2.2 = 0) : reg ones t = resid := by
  unfold nxt at h
  split at h
  · simp at h
  · split at h
    · simp at h
    · split at h
      · simp at h
      · split at h
        · rename_i h4
          rw [List.take_of_length_le (by simp; omega)] at h4
          have e := reg_own (t.take (hdN t + 2))
          rw [← h4, List.take_append_drop] at e
          exact e
        · simp at h
/-- Bits of a mask are turned, one by one, from bit k on. -/
def turned (t : List Int) (m : BitVec 32) (k : Nat) : Nat → List Int
  | 0 => t
  | i + 1 => if m.getLsbD i then (turned t m k i).set ((k + i) / 8) (ixor .u8 ((turned t m k i).getD ((k + i) / 8) 0) (ishl .u8 1 (((k + i) % 8 : Nat) : Int))) else turned t m k i
theorem turned_len (t : List Int) (m : BitVec 32) (k : Nat) : ∀ i, (turned t m k i).length = t.length
  | 0 => rfl
  | i + 1 => by
    simp only [turned]
    split
    · rw [List.length_set, turned_len t m k i]
    · exact turned_len t m k i
theorem turned_byt {t : List Int} (h : Byt t) (m : BitVec 32) (k : Nat) : ∀ i, Byt (turned t m k i)
  | 0 => h
  | i + 1 => by
    simp only [turned]
    split
    · intro x hx
      rcases List.mem_or_eq_of_mem_set hx with hx | rfl
      · exact turned_byt h m k i x hx
      · exact wrap_u8_in _
    · exact turned_byt h m k i
theorem turned_head (t : List Int) (m : BitVec 32) {k : Nat} (hk : 16 ≤ k) (j : Nat) (hj : j < 2) : ∀ i, (turned t m k i).getD j 0 = t.getD j 0
  | 0 => rfl
  | i + 1 => by
    simp only [turned]
    split
    · rw [List.getD_eq_getElem?_getD, List.getElem?_set_ne (by omega), ← List.getD_eq_getElem?_getD]
      exact turned_head t m hk j hj i
    · exact turned_head t m hk j hj i
theorem flip_byte {x : Int} (hx : 0 ≤ x ∧ x < 256) {q : Nat} (hq : q < 8) : BitVec.ofInt 32 (ixor .u8 x (ishl .u8 1 (q : Int))) = BitVec.ofInt 32 x ^^^ (1#32 <<< q) := by
  have hs : ishl .u8 1 (q : Int) = ((2 ^ q : Nat) : Int) := by
    have : q = 0 ∨ q = 1 ∨ q = 2 ∨ q = 3 ∨ q = 4 ∨ q = 5 ∨ q = 6 ∨ q = 7 := by omega
    rcases this with rfl | rfl | rfl | rfl | rfl | rfl | rfl | rfl <;> rfl
  obtain ⟨n, rfl⟩ := Int.eq_ofNat_of_zero_le hx.1
  rw [hs]
  have hn : n < 2 ^ 8 := by omega
  have h2 : 2 ^ q < 2 ^ 8 := Nat.pow_lt_pow_right (by omega) hq
  have hx8 := Nat.xor_lt_two_pow hn h2
  have hsh : 1#32 <<< q = BitVec.ofNat 32 (2 ^ q) := by
    apply BitVec.eq_of_toNat_eq
    rw [BitVec.toNat_shiftLeft, BitVec.toNat_ofNat, Nat.shiftLeft_eq]
    simp
  rw [hsh]
  generalize 2 ^ q = P at h2 hx8 ⊢
  have e : ixor .u8 (n : Int) (P : Int) = ((n ^^^ P : Nat) : Int) := by
    unfold ixor
    show IntKind.u8.wrap ((BitVec.ofInt 8 (n : Int) ^^^ BitVec.ofInt 8 (P : Int)).toNat : Nat) = _
    rw [BitVec.toNat_xor, BitVec.toNat_ofInt, BitVec.toNat_ofInt]
    have e1 : ((n : Int) % (2 ^ 8 : Nat)).toNat = n := by omega
    have e2 : ((P : Int) % (2 ^ 8 : Nat)).toNat = P := by omega
    rw [e1, e2, wrap_u8]
    omega
  rw [e]
  apply BitVec.eq_of_toNat_eq
  rw [BitVec.toNat_xor, BitVec.toNat_ofInt, BitVec.toNat_ofInt, BitVec.toNat_ofNat]
  have e3 : (((n ^^^ P : Nat) : Int) % (2 ^ 32 : Nat)).toNat = n ^^^ P := by omega
  have e4 : ((n : Int) % (2 ^ 32 : Nat)).toNat = n := by omega
  have e5 : P % 2 ^ 32 = P := by omega
  rw [e3, e4, e5]
theorem turned_reg {t : List Int} (hB : Byt t) (m : BitVec 32) {k : Nat} (hk : k + 32 ≤ 8 * t.length) : ∀ i, i ≤ 32 → reg ones (turned t m k i) = reg ones t ^^^ tbs (8 * t.length - k) (ml m i)
  | 0, _ => by
    simp only [turned, ml]
    have : tbs (8 * t.length - k) 0#32 = 0#32 := by
      have := tbs_xor 0#32 0#32 (8 * t.length - k)
      simpa using this
    rw [this, BitVec.xor_zero]
  | i + 1, hi => by
    have ih := turned_reg hB m hk i (by omega)
    have hl := turned_len t m k i
    have hbt := turned_byt hB m k i
    simp only [turned, ml]
    cases hm : m.getLsbD i with
    | false => rw [if_neg (by simp), if_neg (by simp)]; exact ih
    | true =>
      rw [if_pos rfl, if_pos rfl, reg_flip _ _ (k + i) _ (by rw [hl]; omega) (flip_byte (hbt.get _) (Nat.mod_lt _ (by omega))), ih, hl, BitVec.xor_assoc, tbs_xor, tbs_pow i _ (by omega) (by omega)]
      rw [show 8 * t.length - k - i = 8 * t.length - (k + i) by omega]
/-- A burst is seen. -/
theorem burst {t : List Int} (hB : Byt t) (hl : t.length = hdN t + 6) (h : (nxt t).2.2 = 0) {m : BitVec 32} (hm : m ≠ 0#32) {k : Nat} (h16 : 16 ≤ k) (hk : k + 32 ≤ 8 * t.length) : (nxt (turned t m k 32)).2.2 = 13 := by
  have hlen := turned_len t m k 32
  have hh : hdN (turned t m k 32) = hdN t := by
    unfold hdN
    rw [turned_head t m h16 0 (by omega), turned_head t m h16 1 (by omega)]
  have h400 : ¬ 400 < hdN t := fun h4 => by
    unfold nxt at h
    rw [if_neg (by omega), if_pos h4] at h
    simp at h
  have hno : ¬ (nxt (turned t m k 32)).2.2 = 0 := fun h0 => by
    have h1 := nxt_reg (by rw [hlen, hh]; exact hl) h0
    rw [turned_reg hB m hk 32 (Nat.le_refl _), nxt_reg hl h, ml_all] at h1
    have h2 : tbs (8 * t.length - k) m = 0#32 := by
      have := congrArg (fun x => resid ^^^ x) h1
      simp only [← BitVec.xor_assoc, BitVec.xor_self, BitVec.zero_xor] at this
      exact this
    exact hm (tbs_zero h2)
  unfold nxt at hno ⊢
  rw [hh, hlen] at hno ⊢
  rw [if_neg (by omega), if_neg h400, if_neg (by omega)] at hno ⊢
  split
  · rename_i h4
    rw [if_pos h4] at hno
    exact absurd rfl hno
  · rfl
end Go.Proofs.Ytinehdoenhodoaa.T.Fm
