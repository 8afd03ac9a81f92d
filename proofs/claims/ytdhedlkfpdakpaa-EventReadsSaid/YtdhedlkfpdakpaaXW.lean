import Derived.Test.YtdhedlkfpdakpaaWWords
import Derived.Test.YtdhedlkfpdakpaaWMore
import Derived.Lib.ConvBytes
import Derived.Lib.SlBytesConst
/-! Own words beside the print's: make with a capacity, a string's bytes. -/
namespace Go.Proofs.YtdhedlkfpdakpaaW.PrintWords
open Go.RowKit
namespace Kd
section
variable {P : Program} {ops : Array Oper} {rest : List Oper} {o : Oper} {a : Act} {Q : Exit → Act → World → Prop} {α : Type}
/-- 'make([]T, 0, n)': an empty row of the call's own. -/
theorem R_makecap (d : Kd α) {w0 W : World} (base e : Nat) (hgd : o.guard = none) {N : Tmp} (_hd : o.dst = some N) (t : TypeId) (x y : Operand) (ho : o.op = .makeSlice t x y) (n : Int) (hx : a.eval x = .int .i64 0) (hy : a.eval y = .int .i64 n)
    (ht : P.underlying t = some (.slice e)) (z : Value) (bytes : Nat) (hinfo : (P.info? e).map (fun i => (i.zero, i.size, i.bytes)) = some (some z, d.sz, bytes)) (_hz : z.cells.size = d.sz) (_hs0 : 0 < d.sz) (hb0 : 0 < bytes)
    {ok : Nat → Prop} (hfresh : ok W.heap.size) (h0 : 0 ≤ n) (hl : n.toNat * bytes ≤ 281474976710656) (HB : Below base w0 W) (hbase : base ≤ W.heap.size)
    (h : ∀ v1 w1, d.R e w1 base ok v1 ([] : List α) → Below base w0 w1 → W.grownBy w1 none → (∃ b, v1.ownBlock = some b ∧ W.heap.size ≤ b) → wpList P ops Q rest (a.put o.dst v1) w1) : wpList P ops Q (o :: rest) a W := by
  obtain ⟨m, rfl⟩ := Int.eq_ofNat_of_zero_le h0
  simp only [Int.toNat_natCast] at hl
  obtain ⟨i0, hi, hzz⟩ := Option.map_eq_some_iff.1 hinfo
  simp only [Prod.mk.injEq] at hzz
  obtain ⟨hz0, hz1, hz2⟩ := hzz
  have hm : m ≤ 281474976710656 := Nat.le_trans (Nat.le_mul_of_pos_right _ hb0) hl
  have hr := run_make (P := P) W t e i0 z ht hi hz0 .i64 .i64 0 (m : Int) (by omega) (by omega)
    (by
      have h3 : ((i0.bytes * m : Nat) : Int) ≤ 281474976710656 := by rw [hz2, Nat.mul_comm]; omega
      rwa [Int.natCast_mul] at h3) (by omega)
  simp only [Int.toNat_natCast] at hr
  rw [hz1] at hr
  have hz0' : (0 : Int).toNat = 0 := rfl
  rw [hz0'] at hr
  refine event_run hgd (v := .slice (some ⟨W.heap.size, 0, none⟩) 0 m) (w1 := W.alloc (.cells (madeCells z.cells (m * d.sz)) e)) (by simp [execOp, ho, hx, hy, hr]) (h _ _ ⟨fun k hk => ?_, [], ?_, Reps.none _ _⟩ (HB.alloc hbase _) (World.grownBy_alloc W _ none) ⟨W.heap.size, by simp [Value.ownBlock], Nat.le_refl _⟩)
  · have : W.heap.size = k := by simpa [Value.ownBlock] using hk
    subst this
    exact hfresh
  · exact World.ownsRow_made W _ m hbase (by simp only [maxLen]; omega) (by simp [size_madeCells])
/-- '[]byte(s)': a row that is only read. -/
theorem V_bytes {w0 W : World} (base e : Nat) (hgd : o.guard = none) {N : Tmp} (_hd : o.dst = some N) (src dst : TypeId) (x : Operand) (ho : o.op = .convert src dst x) (s : ByteArray) (hx : a.eval x = .string s)
    (hs : P.underlying src = some .string) (hd : P.underlying dst = some (.slice e)) (he : P.underlying e = some (.int .u8))
    (hl : s.size ≤ 9223372036854775807) (HB : Below base w0 W) (hbase : base ≤ W.heap.size)
    (h : ∀ v1 w1, Kd.V (Kd.int .u8) e w1 base (fun k_ => W.heap.size ≤ k_) v1 (bytesOf s) → Below base w0 w1 → W.grownBy w1 none → (∃ b, v1.ownBlock = some b ∧ W.heap.size ≤ b) → wpList P ops Q rest (a.put o.dst v1) w1) : wpList P ops Q (o :: rest) a W := by
  have hr := Lib.run_convert_string_bytes (P := P) W src dst e s hs hd he
  have hg : W.grownBy (Lib.bytesWorld W e s) none := ⟨rfl, rfl, rfl, by rw [Lib.bytesWorld_size]; omega, fun k hk _ => Lib.bytesWorld_at_old W e s k hk⟩
  have hlen := bytesOf_length s
  refine event_run hgd (by simp [execOp, ho, hx, hr]) (h (.slice (some ⟨W.heap.size, 0, none⟩) s.size (grownCap W s.size 0 e)) _ ⟨some ⟨W.heap.size, 0, none⟩, _, by rw [hlen], by rw [hlen]; exact grownCap_ge _ _ _ _, fun W' hW => ?_⟩ (HB.grown hg hbase (fun k hk => by cases hk)) hg ⟨W.heap.size, by simp [Value.ownBlock], Nat.le_refl _⟩)
  have hb : W'.heap[W.heap.size]? = (Lib.bytesWorld W e s).heap[W.heap.size]? := hW _ (Nat.le_refl _) (by rw [Lib.bytesWorld_size]; omega)
  refine C_of_reads (d := 0) ⟨rfl, by rw [hlen]; exact hl, fun _ => ⟨_, rfl, fun j hj => ?_⟩⟩
  rw [hlen] at hj
  have hc := Lib.bytesWorld_cell W e s j hj
  have ha : (⟨W.heap.size, 0, none⟩ : Addr).add j = ⟨W.heap.size, j, none⟩ := by unfold Addr.add; split <;> simp_all
  rw [ha]
  have : W'.cell? ⟨W.heap.size, j, none⟩ = (Lib.bytesWorld W e s).cell? ⟨W.heap.size, j, none⟩ := World.cell?_of_block hb
  rw [this, hc]
  have hj' : j < s.data.size := hj
  simp [bytesOf, List.getD_eq_getElem?_getD, Array.getElem?_eq_getElem hj']
/-- '[]byte("abc")': a literal, and its conversion to its own type. -/
theorem V_const {w0 W : World} (base e : Nat) (hgd : o.guard = none) {N : Tmp} (_hd : o.dst = some N) (t : TypeId) (x : Operand) (ho : o.op = .convert t t x) (xs : List Int) (cs : List Value) (hcs : cs = xs.map (Value.int .u8)) (n : Nat) (hn : n = xs.length)
    (hx : a.eval x = .slice (some ⟨W.heap.size, 0, none⟩) n n) (ht : P.underlying t = some (.slice e)) (he : P.underlying e = some (.int .u8)) (hl : xs.length ≤ 9223372036854775807) (HB : Below base w0 W) (hbase : base ≤ W.heap.size)
    (h : ∀ v1 w1, Kd.V (Kd.int .u8) e w1 base (fun k_ => W.heap.size ≤ k_) v1 xs → Below base w0 w1 → W.grownBy w1 none → (∃ b, v1.ownBlock = some b ∧ W.heap.size ≤ b) → wpList P ops Q rest (a.put o.dst v1) w1) : wpList P ops Q (o :: rest) a (W.alloc (.cells cs.toArray e)) := by
  subst hn
  have hr := Lib.run_convert_bytes_const (P := P) W t e cs.toArray xs.length xs.length ht he
  have hg : W.grownBy (W.alloc (.cells cs.toArray e (cs.toArray.size, cs.toArray.size + 1))) none := World.grownBy_alloc W _ none
  refine event_run hgd (by simp [execOp, ho, hx, hr]) (h (.slice (some ⟨W.heap.size, 0, none⟩) xs.length xs.length) _ ⟨some ⟨W.heap.size, 0, none⟩, _, rfl, Nat.le_refl _, fun W' hW => ?_⟩ (HB.grown hg hbase (fun k hk => by cases hk)) hg ⟨W.heap.size, by simp [Value.ownBlock], Nat.le_refl _⟩)
  have hb := hW _ (Nat.le_refl _) (by simp)
  rw [heap_alloc_new W _] at hb
  refine C_of_reads (d := 0) ⟨rfl, hl, fun _ => ⟨_, rfl, fun j hj => ?_⟩⟩
  have ha : (⟨W.heap.size, 0, none⟩ : Addr).add j = ⟨W.heap.size, j, none⟩ := by unfold Addr.add; split <;> simp_all
  rw [ha]
  simp [World.cell?, hb, hcs, List.getD_eq_getElem?_getD, List.getElem?_eq_getElem hj]
/-- 'string(b)'. -/
theorem string_event {W : World} (hgd : o.guard = none) {N : Tmp} (_hd : o.dst = some N) (src dst e : TypeId) (x : Operand) (ho : o.op = .convert src dst x) (A : Option Addr) (n c : Nat) (xs : List Int) (hx : a.eval x = .slice A n c)
    (hs : P.underlying src = some (.slice e)) (he : P.underlying e = some (.int .u8)) (hd : P.underlying dst = some .string) (hC : (Kd.int .u8).C W A n xs)
    (h : wpList P ops Q rest (a.put o.dst (.string (strOfNums xs))) W) : wpList P ops Q (o :: rest) a W := by
  have hr := Kd.C_string (P := P) (src := src) (dst := dst) (c := c) hs he hd hC
  exact event_run hgd (by simp [execOp, ho, hx, hr]) h
/-- 'xs[:n:n]'. -/
theorem cut_all (t e : TypeId) (kh : IntKind) {i : TypeInfo} (ht : P.underlying t = some (.slice e)) (hi : P.info? e = some i) (A : Option Addr) (n c : Nat) (j : Int) (h0 : 0 ≤ j) (hm : j ≤ n) (hc : n ≤ c) :
    ∀ W : World, (Instr.slice t (.slice A n c) none (some (.int kh j)) (some (.int kh j))).run P W = .ok (.slice A j.toNat j.toNat) W := by
  intro W
  have ha : (A.map fun x => x.add 0) = A := by cases A <;> simp [Addr.add]
  have h1 : j ≤ (c : Int) := by omega
  have h2 : j ≤ max j 0 := by omega
  simp [Instr.slice, Instr.sliceBounds, Instr.sliceBound, asIntOf, run_underlying ht, sizeOf, typeInfo, hi, h0, h1, h2, Result.andThen, ha]
end
end Kd
end Go.Proofs.YtdhedlkfpdakpaaW.PrintWords
