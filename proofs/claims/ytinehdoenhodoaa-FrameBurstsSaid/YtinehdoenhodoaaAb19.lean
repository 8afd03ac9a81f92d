import Derived.Test.YtinehdoenhodoaaAb18
/-! Numbers. -/
set_option linter.unusedVariables false
set_option linter.unusedSimpArgs false
namespace Go.Ab
theorem wrap_u8 (x : Int) : IntKind.u8.wrap x = x % 256 := by
  simp [IntKind.wrap, IntKind.bits, IntKind.signed]
theorem wrap_and255 {n : Nat} (h : n < 4294967296) : IntKind.u8.wrap (iand .u32 n 255) = IntKind.u8.wrap n := by
  have h1 : (BitVec.ofInt 32 (n : Int) &&& BitVec.ofInt 32 255).toNat = n % 256 := by
    rw [BitVec.toNat_and]
    have : (BitVec.ofInt 32 (n : Int)).toNat = n := by simp [BitVec.toNat_ofInt]; omega
    rw [this]
    exact Nat.and_two_pow_sub_one_eq_mod n 8
  rw [wrap_u8, wrap_u8]
  unfold iand
  show (IntKind.u32.wrap ((BitVec.ofInt 32 (n : Int) &&& BitVec.ofInt 32 255).toNat : Nat)) % 256 = _
  rw [h1]
  simp [IntKind.wrap, IntKind.bits, IntKind.signed]
theorem hd_hi {n : Nat} (h : n ≤ 400) : IntKind.u8.wrap (IntKind.i64.wrap ((n : Int) / 256)) = IntKind.u8.wrap (ishr .i64 n 8) := by
  have : ishr .i64 n 8 = (n : Int) / 256 := by
    simp only [ishr, IntKind.bits]
    simp
    exact (Int.fdiv_eq_ediv_of_nonneg _ (by omega)).trans rfl
  rw [this, wrap_i64 (by omega) (by omega)]
theorem hd_lo {n : Nat} (h : n ≤ 400) : IntKind.u8.wrap ((n : Int).tmod 256) = IntKind.u8.wrap n := by
  rw [wrap_u8, wrap_u8, Int.tmod_eq_emod_of_nonneg (by omega)]
  omega
theorem wrap_u32 (x : Int) : IntKind.u32.wrap x = x % 4294967296 := by
  simp [IntKind.wrap, IntKind.bits, IntKind.signed]
theorem ixor_nat (x y : Int) : ∃ n : Nat, ixor .u32 x y = n ∧ n < 4294967296 := by
  refine ⟨(ixor .u32 x y).toNat, ?_, ?_⟩
  · unfold ixor; rw [wrap_u32]; omega
  · unfold ixor; rw [wrap_u32]; omega
theorem ishr_nat (n s : Nat) (hs : s ≤ 32) : ishr .u32 n s = (n / 2 ^ s : Nat) := by
  simp only [ishr, IntKind.bits]
  rw [Int.toNat_natCast, Nat.min_eq_left hs, Int.fdiv_eq_ediv_of_nonneg _ (by exact_mod_cast Nat.zero_le _)]
  simp
/-- Bytes. -/
def Byt (bs : List Int) : Prop := ∀ n ∈ bs, 0 ≤ n ∧ n < 256
theorem Byt.get {bs : List Int} (h : Byt bs) (i : Nat) : 0 ≤ bs.getD i 0 ∧ bs.getD i 0 < 256 := by
  by_cases hi : i < bs.length
  · simp only [List.getD_eq_getElem?_getD, List.getElem?_eq_getElem hi, Option.getD_some]
    exact h _ (List.getElem_mem hi)
  · simp [List.getElem?_eq_none (Nat.le_of_not_lt hi)]
theorem Byt.take {bs : List Int} (h : Byt bs) (n : Nat) : Byt (bs.take n) := fun x hx => h x (List.mem_of_mem_take hx)
theorem Byt.drop {bs : List Int} (h : Byt bs) (n : Nat) : Byt (bs.drop n) := fun x hx => h x (List.mem_of_mem_drop hx)
theorem Byt.app {a b : List Int} (h : Byt a) (g : Byt b) : Byt (a ++ b) := fun x hx => by
  rcases List.mem_append.1 hx with hx | hx
  · exact h x hx
  · exact g x hx
theorem byt_nil : Byt [] := fun x h => by cases h
theorem byt_cons {x : Int} {l : List Int} (h : 0 ≤ x ∧ x < 256) (g : Byt l) : Byt (x :: l) := fun y hy => by
  rcases List.mem_cons.1 hy with rfl | hy
  · exact h
  · exact g y hy
theorem wrap_u8_in (x : Int) : 0 ≤ IntKind.u8.wrap x ∧ IntKind.u8.wrap x < 256 := by rw [wrap_u8]; omega
theorem ior_hi {a b : Int} (ha : 0 ≤ a ∧ a < 256) (hb : 0 ≤ b ∧ b < 256) : ior .i64 (ishl .i64 a 8) b = 256 * a + b := by
  obtain ⟨m, rfl⟩ := Int.eq_ofNat_of_zero_le ha.1
  obtain ⟨n, rfl⟩ := Int.eq_ofNat_of_zero_le hb.1
  have hs : ishl .i64 (m : Int) 8 = ((m * 256 : Nat) : Int) := by
    simp only [ishl, IntKind.bits]
    rw [show min (8 : Int).toNat 64 = 8 from rfl, wrap_i64 (by omega) (by omega)]
    omega
  have e1 : (BitVec.ofInt 64 ((m * 256 : Nat) : Int)).toNat = m * 256 := by simp only [BitVec.toNat_ofInt]; omega
  have e2 : (BitVec.ofInt 64 (n : Int)).toNat = n := by simp only [BitVec.toNat_ofInt]; omega
  have e3 : (BitVec.ofInt 64 ((m * 256 : Nat) : Int) ||| BitVec.ofInt 64 (n : Int)).toNat = m * 256 + n := by
    rw [BitVec.toNat_or, e1, e2]
    have := Nat.shiftLeft_add_eq_or_of_lt (b := n) (i := 8) (by omega) m
    rw [Nat.shiftLeft_eq] at this
    exact this.symm
  rw [hs]
  unfold ior
  show IntKind.i64.wrap ((BitVec.ofInt 64 ((m * 256 : Nat) : Int) ||| BitVec.ofInt 64 (n : Int)).toNat : Nat) = _
  rw [e3, wrap_i64 (by omega) (by omega)]
  omega

theorem eq_getD {l m : List Int} (hl : l.length = m.length) (h : ∀ j, j < m.length → l.getD j 0 = m.getD j 0) : l = m := by
  apply List.ext_getElem hl
  intro i h1 h2
  have := h i h2
  simpa [List.getD_eq_getElem?_getD, h1, h2] using this
/-! strings of bytes -/
theorem strN_data (ns : List Int) : (strN ns).data.toList = ns.map fun n => UInt8.ofNat n.toNat := by simp [strN]
theorem strN_size (ns : List Int) : (strN ns).size = ns.length := by
  show (strN ns).data.size = _
  simp [strN]
theorem strN_nil : strN [] = ByteArray.empty := rfl
theorem strN_beq {a b : List Int} (ha : Byt a) (hb : Byt b) : ((strN a).toList == (strN b).toList) = decide (a = b) := by
  rw [ByteArray.toList_eq, ByteArray.toList_eq, strN_data, strN_data]
  by_cases h : a = b
  · subst h; simp
  · simp only [h, decide_false, beq_eq_false_iff_ne, ne_eq]
    intro e
    apply h
    have : ∀ {a b : List Int}, Byt a → Byt b → a.map (fun n => UInt8.ofNat n.toNat) = b.map (fun n => UInt8.ofNat n.toNat) → a = b := by
      intro a
      induction a with
      | nil => intro b _ _ e; cases b <;> simp_all
      | cons x a ih =>
        intro b ha hb e
        cases b with
        | nil => simp at e
        | cons y b =>
          simp only [List.map_cons, List.cons.injEq] at e
          have hx := ha x (by simp)
          have hy := hb y (by simp)
          have := congrArg UInt8.toNat e.1
          simp at this
          rw [ih (fun z hz => ha z (by simp [hz])) (fun z hz => hb z (by simp [hz])) e.2]
          rw [show x = y by omega]
    exact this ha hb e
theorem numsAV_u8s (bs : List Int) : numsAV (u8s bs) = some bs := by
  induction bs with
  | nil => rfl
  | cons x l ih =>
    show (numsAV (u8s l)).map (x :: ·) = _
    rw [ih]; rfl
end Go.Ab
