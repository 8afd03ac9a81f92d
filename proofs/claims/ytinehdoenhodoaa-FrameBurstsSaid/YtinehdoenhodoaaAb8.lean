import Derived.Test.YtinehdoenhodoaaAb7
import Derived.Laws.BytesString
import Derived.Lib.ConvBytes
import Derived.Laws.StructEq
/-! copy, clear, conversions, numbers, equality. -/
set_option linter.unusedVariables false
set_option linter.unusedSimpArgs false
namespace Go.Ab
section
variable {P : Program} {ap : AP} {φ : Inj} {H : AH} {w : World}

theorem take_cells {x : AV} {x' : Value} {sz n m : Nat} (hn : n ≤ m) : True := trivial

theorem sound_copy (hg : TyAgree P ap) (hr : Rel φ H w.heap) {d s : AV} {d' s' : Value} (hd : VR φ d d') (hs : VR φ s s') {lo : Nat} {ts : Array TypeId} {t e : Nat} {te : TI} (hte : ap.ty e = some te)
    (h0 : ts[0]? = some t) (ht : P.underlying t = some (.slice e)) (ty : TypeId) {v : AV} {H' : AH} (h : acopy lo H te.sz d s = some (v, H')) :
    ∃ v' w', (Builtin.copy_ ts ty #[d', s']).run P w = .ok v' w' ∧ SimW φ H w φ H' w' ∧ VR φ v v' := by
  obtain ⟨i1, d1, z1, ht1⟩ := hg.get hte
  have hsz := run_sizeOf' ht1
  unfold acopy at h
  split at h
  · rename_i hcond
    simp only [Bool.and_eq_true, decide_eq_true_eq] at hcond
    obtain ⟨⟨hdo, hso⟩, hpos⟩ := hcond
    replace h := Option.bind_eq_some_iff.1 h
    obtain ⟨m, e1, h⟩ := h
    replace h := Option.bind_eq_some_iff.1 h
    obtain ⟨k, e2, h⟩ := h
    replace h := Option.bind_eq_some_iff.1 h
    obtain ⟨xs, e3, h⟩ := h
    split at h
    · cases h
    · rename_i hone
      have hone : xs.all AV.one = true := by simpa using hone
      obtain ⟨cs, c1, c2, c3⟩ := sound_first (P := P) hr hs e3 e1 (Nat.min_le_left m k) hso
      have hn := run_lenOf (P := P) hs e1
      cases hd <;> simp only at h <;> try (cases h; done)
      · -- a nil destination
        obtain ⟨rfl, rfl⟩ := Prod.mk.inj (Option.some.inj h)
        simp [Ab.lenOf] at e2; subst e2
        refine ⟨.int .i64 _, w, ?_, .refl hr, .int _ _⟩
        have c2' : (Builtin.firstCells te.sz 0 s').run P w = .ok cs.toArray w := by simpa using c2
        simp [Builtin.copy_, h0, run_underlying ht, hn, hsz, c2', goInt]
      · rename_i b o len cap sz p a' cap' hp ha hll hR hc
        have hdo : sz = te.sz := by simpa [szOk] using hdo
        subst hdo
        simp [Ab.lenOf] at e2; subst e2
        have hmin : Nat.min m len = min m len := rfl
        split at h
        · rename_i hx0
          obtain ⟨rfl, rfl⟩ := Prod.mk.inj (Option.some.inj h)
          have : cs = [] := by
            have := c3.1
            rw [hx0] at this
            apply List.eq_nil_of_length_eq_zero
            simpa using this.symm
          subst this
          refine ⟨.int .i64 _, w, ?_, .refl hr, .int _ _⟩
          simp [Builtin.copy_, h0, run_underlying ht, hn, hsz, hmin, c2, goInt, storeCells]
        · rename_i hx0
          replace h := Option.bind_eq_some_iff.1 h
          obtain ⟨l, e4, h⟩ := h
          split at h
          · rename_i hfit
            obtain ⟨rfl, rfl⟩ := Prod.mk.inj (Option.some.inj h)
            have hpos2 : 0 < cap' := by
              have h1 : 0 < xs.length := List.length_pos_iff.2 hx0
              have h2 := c3.1
              simp at h2
              rcases Nat.eq_zero_or_pos (min m len) with h3 | h3
              · rw [c1, h3] at h2; omega
              · omega
            have ha' : a' = ⟨p.blk, p.d + o, none⟩ := ha.resolve_right (by omega)
            subst ha'
            obtain ⟨w', s1, s2⟩ := hr.store (P := P) hp (rowRw_some e4).1 c3 hfit hone
            refine ⟨.int .i64 _, w', ?_, s2, .int _ _⟩
            simp [Builtin.copy_, h0, run_underlying ht, hn, hsz, hmin, c2, goInt, s1]
          · cases h
  · cases h

theorem run_amm (op : Bool) : ∀ (l : List AV) (l' : List Value) (k : IntKind) (x : Int) (v : AV), l.length = l'.length → (∀ (i : Nat) (a : AV) (u : Value), l[i]? = some a → l'[i]? = some u → VR φ a u) → amm1 op k x l = some v →
    ∃ n, v = .int k n ∧ (l'.foldlM (if op then Builtin.max2 else Builtin.min2) (.int k x)).run P w = .ok (.int k n) w
  | [], [], k, x, v, _, _, h => by
    simp only [amm1] at h
    cases h
    exact ⟨x, rfl, by cases op <;> simp⟩
  | a :: l, u :: l', k, x, v, hl, hr, h => by
    have h0 := hr 0 a u rfl rfl
    cases h0 <;> simp only [amm1] at h <;> try (cases h; done)
    rename_i k' y
    obtain ⟨n, h1, h2⟩ := run_amm op l l' k _ v (by simpa using hl) (fun i a u e1 e2 => hr (i + 1) a u (by simpa using e1) (by simpa using e2)) h
    refine ⟨n, h1, ?_⟩
    cases op
    · simp only [Bool.false_eq_true, if_false] at h2 ⊢
      rw [List.foldlM_cons, Sem.run_bind]
      have : (Builtin.min2 (.int k x) (.int k' y)).run P w = .ok (.int k (if y < x then y else x)) w := by simp [Builtin.min2]
      rw [this]
      exact h2
    · simp only [if_true] at h2 ⊢
      rw [List.foldlM_cons, Sem.run_bind]
      have : (Builtin.max2 (.int k x) (.int k' y)).run P w = .ok (.int k (if y > x then y else x)) w := by simp [Builtin.max2]
      rw [this]
      exact h2
  | [], _ :: _, _, _, _, hl, _, _ => by simp at hl
  | _ :: _, [], _, _, _, hl, _, _ => by simp at hl

theorem sound_amm {xs : List AV} {xs' : Array Value} (h : ER φ xs xs') (op : Bool) {v : AV} (hv : amm op xs = some v) (ts : Array TypeId) (ty : TypeId) (w : World) :
    ∃ v', (if op then Builtin.max_ ts ty xs' else Builtin.min_ ts ty xs').run P w = .ok v' w ∧ VR φ v v' := by
  obtain ⟨l'⟩ := xs'
  cases xs with
  | nil => cases hv
  | cons a l =>
    cases l' with
    | nil => have := h.1; simp at this
    | cons u l' =>
      have h0 := h.2 0 a u rfl rfl
      cases h0 <;> simp only [amm] at hv <;> try (cases hv; done)
      rename_i k x
      obtain ⟨n, rfl, h2⟩ := run_amm (P := P) (w := w) op l l' k x v (by have := h.1; simpa using this) (fun i a u e1 e2 => h.2 (i + 1) a u (by simpa using e1) (by simpa using e2)) hv
      refine ⟨_, ?_, .int _ _⟩
      cases op
      · simpa [Builtin.min_] using h2
      · simpa [Builtin.max_] using h2

theorem run_arith {op : BinOp} {k : IntKind} {x y : Int} {v : AV} (h : arith op k x y = some v) (hs : ¬ (op = .shl ∨ op = .shr)) (t : TypeId) (w : World) :
    ∃ v', (Go.binOp op t (.int k x) (.int k y)).run P w = .ok v' w ∧ VR φ v v' := by
  cases op <;> simp only [arith] at h <;> try (cases h; done)
  all_goals first
    | (cases h; exact ⟨_, by simp [Go.binOp, Op.intArith, Op.intCmp, Op.intBits]; rfl, by constructor⟩)
    | (split at h
       · cases h
       · rename_i hy
         cases h
         exact ⟨_, by simp [Go.binOp, Op.intDiv, hy]; rfl, by constructor⟩)
    | simp at hs

theorem run_shift {op : BinOp} {k : IntKind} {x y : Int} {v : AV} (h : Ab.shift op k x y = some v) (yk : IntKind) (t : TypeId) (w : World) :
    ∃ v', (Go.binOp op t (.int k x) (.int yk y)).run P w = .ok v' w ∧ VR φ v v' := by
  unfold Ab.shift at h
  split at h
  · cases h
  · rename_i hy
    cases op <;> simp only at h <;> try (cases h; done)
    all_goals (cases h; exact ⟨_, by simp [Go.binOp, Op.shift, hy]; rfl, by constructor⟩)
theorem run_strOp {op : BinOp} {x y : ByteArray} {v : AV} (h : strOp op x y = some v) (t : TypeId) (w : World) :
    ∃ v', (Go.binOp op t (.string x) (.string y)).run P w = .ok v' w ∧ VR φ v v' := by
  cases op <;> simp only [strOp] at h <;> try (cases h; done)
  all_goals first
    | (cases h; exact ⟨_, by simp [Go.binOp, Op.stringOp]; rfl, by constructor⟩)
    | (split at h
       · cases h
       · rename_i hy
         cases h
         have hy' : ¬ (((x.size + y.size : Nat) : Int) > IntKind.i64.max) := by simp only [IntKind.max, IntKind.signed, IntKind.bits]; simpa using hy
         exact ⟨_, by simp only [Go.binOp, Op.stringOp, if_neg hy', Sem.run_pure]; rfl, by constructor⟩)

theorem eqC_sound (hg : TyAgree P ap) {t : TypeId} {x y : AV} {x' y' : Value} (hx : VR φ x x') (hy : VR φ y y') {b : Bool} (h : eqC ap t x y = some b) (d : Nat) (w : World) :
    (Op.equalIn (d + 1) t x' y').run P w = .ok b w ∧ (∀ n, P.eqGuardType (n + 1) t = false) ∧ (∃ ti, ap.ty t = some ti ∧ ti.td.isAgg = false) := by
  unfold eqC at h
  split at h
  · rename_i ti ht
    obtain ⟨i, d1, z, hk⟩ := hg.get ht
    split at h
    · rename_i a b' htd
      cases h; cases hx; cases hy
      have hu := hk.td
      rw [htd] at hu
      have hu : P.underlying t = some .bool := by
        rw [hk.hd]
        cases d1 <;> simp only [tdOf] at hu <;> first | (cases hu; done) | (cases hu; rfl) | (split at hu <;> cases hu)
      exact ⟨run_equalIn_bool w d t a b' hu, fun n => by simp [Program.eqGuardType, hu], ti, ht, by rw [htd]; rfl⟩
    · rename_i k k1 a k2 b' htd
      split at h
      · rename_i hkk
        subst hkk
        cases h; cases hx; cases hy
        have hu := td_int hk htd
        exact ⟨run_equalIn_int w d t _ _ a b' hu, fun n => by simp [Program.eqGuardType, hu], ti, ht, by rw [htd]; rfl⟩
      · cases h
    · rename_i a b' htd
      cases h; cases hx; cases hy
      have hu := td_string hk htd
      exact ⟨run_equalIn_string w d t a b' hu, fun n => by simp [Program.eqGuardType, hu], ti, ht, by rw [htd]; rfl⟩
    · cases h
  · cases h

theorem eqF_sound (hg : TyAgree P ap) (d : Nat) (w : World) {xs ys : Array Value} : ∀ (fields : List Field) (n : Nat) (l m : List AV) (b : Bool), (∀ f ∈ fields, f.name ≠ "_") → LR φ l xs n → LR φ m ys n →
    eqF ap n (fields.map fun f => (f.offset, f.type)) l m = some b → (Op.eqFields (d + 1) xs ys fields).run P w = .ok b w ∧ ∀ f ∈ fields, ∀ k, P.eqGuardType (k + 1) f.type = false
  | [], n, l, m, b, _, _, _, h => by
    cases l <;> cases m <;> simp only [List.map_nil, eqF] at h <;> try (cases h; done)
    cases h
    exact ⟨by simp [Op.eqFields], fun f hf => by cases hf⟩
  | f :: r, n, l, m, b, hn, hx, hy, h => by
    cases l <;> cases m <;> simp only [List.map_cons, eqF] at h <;> try (cases h; done)
    rename_i a l b' m
    split at h
    · rename_i ho
      replace h := Option.bind_eq_some_iff.1 h
      obtain ⟨q, e1, h⟩ := h
      replace h := Option.bind_eq_some_iff.1 h
      obtain ⟨s, e2, h⟩ := h
      cases h
      obtain ⟨u, u1, u2⟩ := hx 0 a rfl
      obtain ⟨v, v1, v2⟩ := hy 0 b' rfl
      obtain ⟨k1, k2, ti, k3, k4⟩ := eqC_sound hg u2 v2 e1 d w
      obtain ⟨i, d1, z, hk⟩ := hg.get k3
      have p1 : (Go.part f.type xs f.offset).run P w = .ok u w := by rw [Nat.add_zero] at u1; simp [Go.part, run_isAgg' hk, k4, ho, u1]
      have p2 : (Go.part f.type ys f.offset).run P w = .ok v w := by rw [Nat.add_zero] at v1; simp [Go.part, run_isAgg' hk, k4, ho, v1]
      obtain ⟨r1, r2⟩ := eqF_sound hg d w r (n + 1) l m s (fun g hg => hn g (by simp [hg]))
        (fun i a' e => by have := hx (i + 1) a' (by simpa using e); rwa [show n + 1 + i = n + (i + 1) by omega])
        (fun i a' e => by have := hy (i + 1) a' (by simpa using e); rwa [show n + 1 + i = n + (i + 1) by omega]) e2
      refine ⟨?_, fun g hgm => ?_⟩
      · have hn' : f.name ≠ "_" := hn f (by simp)
        rw [Op.eqFields]
        simp only [if_pos hn', Sem.run_bind, p1, p2, k1, Result.andThen_ok]
        cases q
        · simp
        · simpa using r1
      · rcases List.mem_cons.1 hgm with rfl | hgm
        · exact k2
        · exact r2 g hgm
    · cases h

theorem td_bool {t : Nat} {ti : TI} {i : TypeInfo} {d : TypeDesc} {z : Value} (h : TyOk P t ti i d z) (he : ti.td = .bool) : P.underlying t = some .bool := by
  have hd := h.td
  rw [he] at hd
  rw [h.hd]
  cases d <;> simp only [tdOf] at hd <;> first | (cases hd; done) | (cases hd; rfl) | (split at hd <;> cases hd)
theorem td_ptr {t : Nat} {ti : TI} {i : TypeInfo} {d : TypeDesc} {z : Value} (h : TyOk P t ti i d z) {e : Nat} (he : ti.td = .ptr e) : P.underlying t = some (.pointer e) := by
  have hd := h.td
  rw [he] at hd
  rw [h.hd]
  cases d <;> simp only [tdOf] at hd <;> first | (cases hd; done) | (cases hd; rfl) | (split at hd <;> cases hd)
theorem td_func {t : Nat} {ti : TI} {i : TypeInfo} {d : TypeDesc} {z : Value} (h : TyOk P t ti i d z) (he : ti.td = .func) : ∃ a b c, P.underlying t = some (.func a b c) := by
  have hd := h.td
  rw [he] at hd
  rw [h.hd]
  cases d <;> simp only [tdOf] at hd <;> first | (cases hd; done) | exact ⟨_, _, _, rfl⟩ | (split at hd <;> cases hd)
theorem td_iface {t : Nat} {ti : TI} {i : TypeInfo} {d : TypeDesc} {z : Value} (h : TyOk P t ti i d z) (he : ti.td = .iface) : ∃ ms, P.underlying t = some (.interface ms) := by
  have hd := h.td
  rw [he] at hd
  rw [h.hd]
  cases d <;> simp only [tdOf] at hd <;> first | (cases hd; done) | exact ⟨_, rfl⟩ | (split at hd <;> cases hd)

section
variable (d : Nat) {t : TypeId}
theorem eq_p1 {e : TypeId} (h : P.underlying t = some (.pointer e)) (b : Option Addr) : (Op.equalIn (d + 1) t (.pointer none) (.pointer b)).run P w = .ok b.isNone w := by simp [Op.equalIn, run_underlying h]
theorem eq_p2 {e : TypeId} (h : P.underlying t = some (.pointer e)) (b : Addr) : (Op.equalIn (d + 1) t (.pointer (some b)) (.pointer none)).run P w = .ok false w := by simp [Op.equalIn, run_underlying h]
theorem eq_s1 {e : TypeId} (h : P.underlying t = some (.slice e)) (b : Option Addr) (l c : Nat) : (Op.equalIn (d + 1) t (.slice none 0 0) (.slice b l c)).run P w = .ok b.isNone w := by simp [Op.equalIn, run_underlying h]
theorem eq_s2 {e : TypeId} (h : P.underlying t = some (.slice e)) (b : Addr) (l c : Nat) : (Op.equalIn (d + 1) t (.slice (some b) l c) (.slice none 0 0)).run P w = .ok false w := by simp [Op.equalIn, run_underlying h]
theorem eq_f1 {p q : Array TypeId} {r : Bool} (h : P.underlying t = some (.func p q r)) : (Op.equalIn (d + 1) t .nilFunc .nilFunc).run P w = .ok true w := by simp [Op.equalIn, run_underlying h]
theorem eq_f2 {p q : Array TypeId} {r : Bool} (h : P.underlying t = some (.func p q r)) (f : Fn) (a b : Array Value) : (Op.equalIn (d + 1) t .nilFunc (.func f a b)).run P w = .ok false w := by simp [Op.equalIn, run_underlying h]
theorem eq_f3 {p q : Array TypeId} {r : Bool} (h : P.underlying t = some (.func p q r)) (f : Fn) (a b : Array Value) : (Op.equalIn (d + 1) t (.func f a b) .nilFunc).run P w = .ok false w := by simp [Op.equalIn, run_underlying h]
theorem eq_i1 {ms : Array (String × TypeId)} (h : P.underlying t = some (.interface ms)) (u : TypeId) (v : Value) : (Op.equalIn (d + 1) t .nilIface (.iface u v)).run P w = .ok false w := by simp [Op.equalIn, run_underlying h]
theorem eq_i2 {ms : Array (String × TypeId)} (h : P.underlying t = some (.interface ms)) (u : TypeId) (v : Value) : (Op.equalIn (d + 1) t (.iface u v) .nilIface).run P w = .ok false w := by simp [Op.equalIn, run_underlying h]
end
/-- Equality: what the model asks first goes through, too. -/
theorem eqV_sound (hg : TyAgree P ap) {t : TypeId} {x y : AV} {x' y' : Value} (hx : VR φ x x') (hy : VR φ y y') {b : Bool} (h : eqV ap t x y = some b) (w : World) :
    (Op.equal t x' y').run P w = .ok b w ∧ ∀ (op : BinOp) (ox oy : Operand), (eqGuard op t ox oy x' y').run P w = .ok () w := by
  unfold eqV at h
  split at h
  · rename_i ti ht
    obtain ⟨i, d1, z, hk⟩ := hg.get ht
    split at h
    · rename_i a b' htd
      cases h; cases hx; cases hy
      exact ⟨run_equal_bool w t a b' (td_bool hk htd), fun op ox oy => by cases op <;> simp [eqGuard]⟩
    · rename_i fs l m htd
      cases hx with
      | agg _ xs h1 h2 =>
        cases hy with
        | agg _ ys g1 g2 =>
          obtain ⟨fields, f1, f2, f3⟩ := td_struct hk htd
          rw [← f2] at h
          have hf : P.fieldsOf t = fields := by simp [Program.fieldsOf, f1]
          have lx : LR φ l xs 0 := (show ER φ l xs from ⟨h1, h2⟩).lr
          have ly : LR φ m ys 0 := (show ER φ m ys from ⟨g1, g2⟩).lr
          obtain ⟨r1, r2⟩ := eqF_sound hg 9998 w fields.toList 0 l m b f3 lx ly h
          refine ⟨?_, fun op ox oy => ?_⟩
          · show (Op.equalIn (9999 + 1) t (.agg xs) (.agg ys)).run P w = _
            rw [run_equalIn_struct (P := P) w 9999 t xs ys (by rw [hf]; exact f1) hk.held, hf]
            exact r1
          · have hty : P.eqGuardType P.depth t = false := by
              have hdep : P.depth = (2 * (P.types.size + Made.depth)) + 1 + 1 := rfl
              have h0 : ∀ n, P.eqGuardType (n + 1) t = fields.any (fun f => f.name != "_" && P.eqGuardType n f.type) := fun n => by rw [Program.eqGuardType, f1]
              rw [hdep, h0, ← Array.any_toList, List.any_eq_false]
              intro f hfm
              rw [r2 f hfm]
              simp
            cases op <;> simp [eqGuard, hty]
    · rename_i e b' htd
      cases h; cases hx
      have hu := td_ptr hk htd
      cases hy <;> exact ⟨eq_p1 9999 hu _, fun op ox oy => by cases op <;> simp [eqGuard]⟩
    · rename_i e a htd
      cases h; cases hx; cases hy
      exact ⟨eq_p2 9999 (td_ptr hk htd) _, fun op ox oy => by cases op <;> simp [eqGuard]⟩
    · rename_i e l1 c1 s1 b' l2 c2 s2 htd
      cases h; cases hx
      cases hy <;> exact ⟨eq_s1 9999 (td_slice hk htd) _ _ _, fun op ox oy => by cases op <;> simp [eqGuard]⟩
    · rename_i e a l1 c1 s1 l2 c2 s2 htd
      cases h; cases hx; cases hy
      exact ⟨eq_s2 9999 (td_slice hk htd) _ _ _, fun op ox oy => by cases op <;> simp [eqGuard]⟩
    · rename_i htd
      cases h; cases hx; cases hy
      obtain ⟨p, q, r, hu⟩ := td_func hk htd
      exact ⟨eq_f1 9999 hu, fun op ox oy => by cases op <;> simp [eqGuard]⟩
    · rename_i htd
      cases h; cases hx; cases hy
      obtain ⟨p, q, r, hu⟩ := td_func hk htd
      exact ⟨eq_f2 9999 hu _ _ _, fun op ox oy => by cases op <;> simp [eqGuard]⟩
    · rename_i htd
      cases h; cases hx; cases hy
      obtain ⟨p, q, r, hu⟩ := td_func hk htd
      exact ⟨eq_f3 9999 hu _ _ _, fun op ox oy => by cases op <;> simp [eqGuard]⟩
    · rename_i htd
      cases h; cases hx; cases hy
      obtain ⟨p, hu⟩ := td_iface hk htd
      exact ⟨eq_i1 9999 hu _ _, fun op ox oy => by cases op <;> simp [eqGuard]⟩
    · rename_i htd
      cases h; cases hx; cases hy
      obtain ⟨p, hu⟩ := td_iface hk htd
      exact ⟨eq_i2 9999 hu _ _, fun op ox oy => by cases op <;> simp [eqGuard]⟩
    · cases h
  · cases h

theorem eqGuard_scalar {op : BinOp} {t : TypeId} {ox oy : Operand} {x y : Value} (hx : (∃ k n, x = .int k n) ∨ ∃ s, x = .string s) (w : World) : (eqGuard op t ox oy x y).run P w = .ok () w := by
  rcases hx with ⟨k, n, rfl⟩ | ⟨s, rfl⟩ <;> cases op <;> simp [eqGuard]

theorem sound_bin (hg : TyAgree P ap) {op : BinOp} {t : TypeId} {x y : AV} {x' y' : Value} (hx : VR φ x x') (hy : VR φ y y') (ox oy : Operand) {v : AV} (h : abin ap op t x y = some v) (w : World) :
    ∃ v', ((do eqGuard op t ox oy x' y'; Go.binOp op t x' y') : Sem Value).run P w = .ok v' w ∧ VR φ v v' := by
  unfold abin at h
  split at h
  · rename_i k a k' b
    cases hx; cases hy
    split at h
    · rename_i hop
      obtain ⟨v', k1, k2⟩ := run_shift (φ := φ) (P := P) h k' t w
      exact ⟨v', by rw [Sem.run_bind, eqGuard_scalar (.inl ⟨_, _, rfl⟩)]; exact k1, k2⟩
    · rename_i hop
      split at h
      · rename_i hkk
        subst hkk
        obtain ⟨v', k1, k2⟩ := run_arith (φ := φ) (P := P) h hop t w
        exact ⟨v', by rw [Sem.run_bind, eqGuard_scalar (.inl ⟨_, _, rfl⟩)]; exact k1, k2⟩
      · cases h
  · rename_i a b
    cases hx; cases hy
    obtain ⟨v', k1, k2⟩ := run_strOp (φ := φ) (P := P) h t w
    exact ⟨v', by rw [Sem.run_bind, eqGuard_scalar (.inr ⟨_, rfl⟩)]; exact k1, k2⟩
  · rename_i n1 n2
    have hb : ∀ (neg : Bool), (∀ k a k' b, x' = .int k a → y' = .int k' b → False) → True := fun _ _ => trivial
    split at h
    · obtain ⟨b, e1, h⟩ := Option.map_eq_some_iff.1 h
      subst h
      obtain ⟨k1, k2⟩ := eqV_sound hg hx hy e1 w
      refine ⟨.bool b, ?_, .bool _⟩
      rw [Sem.run_bind, k2]
      have e2 := e1
      unfold eqV at e2
      split at e2
      · split at e2 <;> first | (cases e2; done) | (cases hx <;> cases hy <;> simp [Go.binOp, k1])
      · cases e2
    · obtain ⟨b, e1, h⟩ := Option.map_eq_some_iff.1 h
      subst h
      obtain ⟨k1, k2⟩ := eqV_sound hg hx hy e1 w
      refine ⟨.bool (!b), ?_, .bool _⟩
      rw [Sem.run_bind, k2]
      have e2 := e1
      unfold eqV at e2
      split at e2
      · split at e2 <;> first | (cases e2; done) | (cases hx <;> cases hy <;> simp [Go.binOp, k1])
      · cases e2
    · cases h

theorem sound_un {op : UnOp} {x : AV} {x' : Value} (hx : VR φ x x') {v : AV} (h : aun op x = some v) (w : World) : ∃ v', (Op.unary op x').run P w = .ok v' w ∧ VR φ v v' := by
  unfold aun at h
  split at h
  · cases hx
    simp only [arith] at h; cases h
    exact ⟨_, by simp [Op.unary, Op.intArith], .int _ _⟩
  · cases hx
    simp only [arith] at h; cases h
    exact ⟨_, by simp [Op.unary, Op.intBits], .int _ _⟩
  · cases hx; cases h
    exact ⟨_, by simp [Op.unary], .bool _⟩
  · cases h
end
end Go.Ab
