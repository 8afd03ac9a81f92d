import Derived.Test.YtinehdoenhodoaaAb19
/-! A register of 32 bits through which bits go: it is linear, and loses nothing. Nothing of the program. -/
set_option linter.unusedSimpArgs false
namespace Go.Ab
/-- One step. -/
def tb (s : BitVec 32) : BitVec 32 := (s >>> 1) ^^^ (if s.getLsbD 0 then 0xedb88320#32 else 0#32)
theorem tb_xor (a b : BitVec 32) : tb (a ^^^ b) = tb a ^^^ tb b := by
  unfold tb
  rw [BitVec.ushiftRight_xor_distrib, BitVec.getLsbD_xor]
  cases a.getLsbD 0 <;> cases b.getLsbD 0
  · simp
  · simp [BitVec.xor_assoc]
  · simp only [Bool.bne_false, if_true, Bool.false_eq_true, if_false, BitVec.xor_zero, Bool.true_bne, Bool.not_false]
    rw [BitVec.xor_assoc, BitVec.xor_assoc]
    congr 1
    exact BitVec.xor_comm _ _
  · simp only [bne_self_eq_false, Bool.false_eq_true, if_false, BitVec.xor_zero, if_true]
    rw [BitVec.xor_assoc, BitVec.xor_comm (0xedb88320#32) (b >>> 1 ^^^ 0xedb88320#32), BitVec.xor_assoc, BitVec.xor_self, BitVec.xor_zero]
theorem tb_zero {s : BitVec 32} (h : tb s = 0#32) : s = 0#32 := by
  unfold tb at h
  have h31 := congrArg (fun x => x.getLsbD 31) h
  cases h0 : s.getLsbD 0 with
  | true =>
    rw [h0] at h31
    simp at h31
  | false =>
    rw [h0] at h
    simp only [Bool.false_eq_true, if_false, BitVec.xor_zero] at h
    apply BitVec.eq_of_getLsbD_eq
    intro i hi
    cases i with
    | zero => rw [h0]; simp
    | succ i =>
      have := congrArg (fun x => x.getLsbD i) h
      simp only [BitVec.getLsbD_ushiftRight] at this
      rw [Nat.add_comm 1 i] at this
      rw [this]; simp
def tbs : Nat → BitVec 32 → BitVec 32
  | 0, s => s
  | n + 1, s => tb (tbs n s)
theorem tbs_xor (a b : BitVec 32) : ∀ n, tbs n (a ^^^ b) = tbs n a ^^^ tbs n b
  | 0 => rfl
  | n + 1 => by simp only [tbs]; rw [tbs_xor a b n, tb_xor]
theorem tbs_zero {s : BitVec 32} : ∀ {n}, tbs n s = 0#32 → s = 0#32
  | 0, h => h
  | n + 1, h => tbs_zero (n := n) (tb_zero h)
theorem tbs_add (m : Nat) (s : BitVec 32) : ∀ n, tbs (n + m) s = tbs n (tbs m s)
  | 0 => by rw [Nat.zero_add]; rfl
  | n + 1 => by rw [Nat.add_right_comm]; simp only [tbs]; rw [tbs_add m s n]
theorem tb_pow {i : Nat} (hi : i + 1 < 32) : tb (1#32 <<< (i + 1)) = 1#32 <<< i := by
  unfold tb
  have h0 : (1#32 <<< (i + 1)).getLsbD 0 = false := by simp
  rw [h0]
  simp only [Bool.false_eq_true, if_false, BitVec.xor_zero]
  apply BitVec.eq_of_getLsbD_eq
  intro j hj
  simp only [BitVec.getLsbD_ushiftRight, BitVec.getLsbD_shiftLeft, BitVec.getLsbD_one]
  by_cases h1 : 1 + j < 32
  · have e1 : decide (1 + j < i + 1) = decide (j < i) := by rw [decide_eq_decide]; omega
    have e2 : decide (1 + j - (i + 1) = 0) = decide (j - i = 0) := by rw [decide_eq_decide]; omega
    simp [h1, hj, e1, e2]
  · have e3 : ¬ j - i = 0 := by omega
    simp [h1, e3]
/-- A bit so far up is one less steps at the bottom. -/
theorem tbs_pow : ∀ (i n : Nat), i < 32 → i ≤ n → tbs n (1#32 <<< i) = tbs (n - i) 1#32
  | 0, n, _, _ => by simp
  | i + 1, n, hi, hn => by
    obtain ⟨m, rfl⟩ : ∃ m, n = m + 1 := ⟨n - 1, by omega⟩
    rw [tbs_add 1, show tbs 1 (1#32 <<< (i + 1)) = tb (1#32 <<< (i + 1)) from rfl, tb_pow hi, tbs_pow i m (by omega) (by omega)]
    congr 1
    omega
/-- Bytes go through. -/
def reg (s : BitVec 32) : List Int → BitVec 32
  | [] => s
  | x :: l => reg (tbs 8 (s ^^^ BitVec.ofInt 32 x)) l
theorem reg_xor (b : BitVec 32) : ∀ (l : List Int) (a : BitVec 32), reg (a ^^^ b) l = reg a l ^^^ tbs (8 * l.length) b
  | [], a => by simp [reg, tbs]
  | x :: l, a => by
    simp only [reg]
    rw [BitVec.xor_assoc, BitVec.xor_comm b, ← BitVec.xor_assoc, tbs_xor, reg_xor _ l, List.length_cons, Nat.mul_add, Nat.mul_one, tbs_add]
theorem reg_app (s : BitVec 32) : ∀ (l m : List Int), reg s (l ++ m) = reg (reg s l) m
  | [], m => rfl
  | x :: l, m => by simp only [List.cons_append, reg]; exact reg_app _ l m
/-- A bit of them is turned. -/
theorem reg_flip : ∀ (l : List Int) (s : BitVec 32) (p : Nat) (y : Int), p < 8 * l.length → BitVec.ofInt 32 y = BitVec.ofInt 32 (l.getD (p / 8) 0) ^^^ (1#32 <<< (p % 8)) →
    reg s (l.set (p / 8) y) = reg s l ^^^ tbs (8 * l.length - p) 1#32
  | [], s, p, y, h, _ => by simp at h
  | x :: l, s, p, y, h, hy => by
    rw [List.length_cons] at h ⊢
    by_cases hp : p < 8
    · have h0 : p / 8 = 0 := by omega
      have h1 : p % 8 = p := by omega
      rw [h0, h1] at hy
      rw [h0]
      simp only [List.getD_cons_zero] at hy
      simp only [List.set_cons_zero, reg]
      rw [hy, ← BitVec.xor_assoc, tbs_xor, reg_xor, ← tbs_add, tbs_pow p _ (by omega) (by omega), Nat.mul_add, Nat.mul_one]
    · obtain ⟨q, rfl⟩ : ∃ q, p = q + 8 := ⟨p - 8, by omega⟩
      have h0 : (q + 8) / 8 = q / 8 + 1 := by omega
      have h1 : (q + 8) % 8 = q % 8 := by omega
      rw [h0, h1] at hy
      rw [h0]
      simp only [List.getD_cons_succ] at hy
      simp only [List.set_cons_succ, reg]
      rw [reg_flip l _ q y (by omega) hy]
      rw [show 8 * (l.length + 1) - (q + 8) = 8 * l.length - q by omega]
/-- The lowest bits of a mask. -/
def ml (m : BitVec 32) : Nat → BitVec 32
  | 0 => 0#32
  | i + 1 => if m.getLsbD i then ml m i ^^^ (1#32 <<< i) else ml m i
theorem ml_get (m : BitVec 32) : ∀ (i j : Nat), i ≤ 32 → (ml m i).getLsbD j = (decide (j < i) && m.getLsbD j)
  | 0, j, _ => by simp [ml]
  | i + 1, j, hi => by
    have ih := ml_get m i j (by omega)
    by_cases hj : j = i
    · subst hj
      simp only [ml]
      cases hm : m.getLsbD j with
      | true =>
        rw [if_pos rfl, BitVec.getLsbD_xor, ih, BitVec.getLsbD_shiftLeft]
        simp; omega
      | false => rw [if_neg (by simp), ih]; simp [hm]
    · have hd : decide (j < i + 1) = decide (j < i) := by rw [decide_eq_decide]; omega
      rw [hd, ← ih]
      simp only [ml]
      split
      · rw [BitVec.getLsbD_xor, BitVec.getLsbD_shiftLeft]
        have : (decide (j < 32) && !decide (j < i) && (1#32).getLsbD (j - i)) = false := by
          by_cases h : j < i
          · simp [h]
          · have : ¬ j - i = 0 := by omega
            simp [BitVec.getLsbD_one, this]
        rw [this]; simp
      · rfl
theorem ml_all (m : BitVec 32) : ml m 32 = m := by
  apply BitVec.eq_of_getLsbD_eq
  intro j hj
  rw [ml_get m 32 j (by omega)]
  simp [hj]
end Go.Ab
