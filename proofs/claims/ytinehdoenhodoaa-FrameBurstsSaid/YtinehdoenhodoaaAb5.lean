import Derived.Test.YtinehdoenhodoaaAb4
/-! Slices, fields, elements, what is made. -/
set_option linter.unusedVariables false
set_option linter.unusedSimpArgs false
namespace Go.Ab
section
variable {P : Program} {ap : AP} {φ : Inj} {H : AH} {w : World}

theorem run_bound {x : AV} {x' : Value} {y n : Nat} (hx : VR φ x x') (c : BoundsCode) (w : World) (h : abound y x = some n) : (Instr.sliceBound x' y c).run P w = .ok n w ∧ n ≤ y := by
  cases hx <;> simp only [abound] at h <;> try (cases h; done)
  split at h
  · rename_i hc
    cases h
    refine ⟨?_, by omega⟩
    simp [Instr.sliceBound, asIntOf, hc]
  · cases h
/-- A bound that may be left out. -/
theorem run_obound {x : Option AV} {x' : Option Value} {y n d : Nat} (h : (match x with | some v => abound y v | none => some d) = some n) (hx : Option.Rel (VR φ) x x') :
    (∀ v, x' = some v → ∀ (c : BoundsCode) (w : World), (Instr.sliceBound v y c).run P w = .ok n w ∧ n ≤ y) ∧ (x' = none → n = d) := by
  cases hx with
  | none => simp at h; subst h; exact ⟨fun v e => (by cases e), fun _ => rfl⟩
  | some hv => exact ⟨fun v e c w => (by cases e; exact run_bound hv c w h), fun e => (by cases e)⟩
theorem rel_opt {env : List AV} {a : Act} (he : ER φ env a.tmps) (x : Option Operand) : Option.Rel (VR φ) (optAll env x) (x.map a.eval) := by
  cases x with
  | none => exact .none
  | some x => exact .some (vr_opd he x)

theorem addr_add2 (B o n : Nat) : Addr.add ⟨B, o, none⟩ n = ⟨B, o + n, none⟩ := addr_add B o n
theorem mulsub {a b c : Nat} (h : b ≤ a) : b * c + (a - b) * c = a * c := by rw [← Nat.add_mul]; congr 1; omega
/-- A slice of a slice. -/
theorem vr_cut {b o len sz : Nat} {cap : Option Nat} {p : PL} {a' : Addr} {cap' : Nat} (h : φ b = some p) (ha : a' = ⟨p.blk, p.d + o, none⟩ ∨ cap' = 0)
    (hR : p.d + o + cap' * sz ≤ p.R) {l k m : Nat} {cap2 : Option Nat} (hl : l ≤ k) (hk : k ≤ m) (hm : m ≤ cap')
    (hc : cap2 = some (m - l) ∨ (cap2 = none ∧ m = cap' ∧ p.d + o + cap' * sz = p.R)) :
    VR φ (.slice (some (b, o + l * sz)) (k - l) cap2 sz) (.slice (if m = l then some a' else some (a'.add (l * sz))) (k - l) (m - l)) := by
  have e1 : (if m = l then some a' else some (a'.add (l * sz))) = some (if m = l then a' else a'.add (l * sz)) := by split <;> rfl
  rw [e1]
  have g1 := mulsub (c := sz) (show l ≤ m by omega)
  have g2 : m * sz ≤ cap' * sz := Nat.mul_le_mul_right _ hm
  refine .slice b _ _ _ _ p _ _ h ?_ (by omega) (by omega) ?_
  · by_cases hml : m = l
    · exact .inr (by omega)
    · rw [if_neg hml]
      rcases ha with rfl | ha
      · exact .inl (by rw [addr_add, Nat.add_assoc])
      · omega
  · rcases hc with rfl | ⟨rfl, rfl, hc⟩
    · exact .inl ⟨_, rfl, rfl⟩
    · exact .inr ⟨rfl, by omega⟩

theorem bd {x : Option AV} {y d n : Nat} (h : (match x with | some v => abound y v | none => some d) = some n) : (x = none ∧ n = d) ∨ (∃ v, x = some v ∧ abound y v = some n) := by
  cases x with
  | none => simp at h; exact .inl ⟨rfl, h.symm⟩
  | some v => exact .inr ⟨v, rfl, h⟩

theorem str_slice (s : ByteArray) {low high : Option AV} {low' high' : Option Value} (hlo : Option.Rel (VR φ) low low') (hhi : Option.Rel (VR φ) high high') {t : Nat} (ht : P.underlying t = some .string)
    {sz : Nat} {v : AV} (h : aslice H sz (.str s) low high none = some v) (w : World) : ∃ v', (Instr.slice t (.string s) low' high' none).run P w = .ok v' w ∧ VR φ v v' := by
  simp only [aslice] at h
  obtain ⟨k, e1, h⟩ := Option.bind_eq_some_iff.1 h
  obtain ⟨l, e2, h⟩ := Option.bind_eq_some_iff.1 h
  cases h
  refine ⟨.string (s.extract l k), ?_, .str _⟩
  cases hhi with
  | none =>
    simp at e1; subst e1
    cases hlo with
    | none => simp at e2; subst e2; simp [Instr.slice, run_underlying ht, Instr.sliceBounds]
    | some hv => simp [Instr.slice, run_underlying ht, Instr.sliceBounds, (run_bound (P := P) hv _ w e2).1]
  | some hv1 =>
    have q1 := fun c => (run_bound (P := P) hv1 c w e1).1
    cases hlo with
    | none => simp at e2; subst e2; simp [Instr.slice, run_underlying ht, Instr.sliceBounds, q1]
    | some hv => simp [Instr.slice, run_underlying ht, Instr.sliceBounds, q1, (run_bound (P := P) hv _ w e2).1]

theorem sl_slice (hg : TyAgree P ap) (hr : Rel φ H w.heap) {x : AV} {x' : Value} (hx : VR φ x x') (hxs : isSlice x = true) {low high mx : Option AV} {low' high' mx' : Option Value} (hlo : Option.Rel (VR φ) low low') (hhi : Option.Rel (VR φ) high high')
    (hmx : Option.Rel (VR φ) mx mx') {t e : Nat} {te : TI} (ht : P.underlying t = some (.slice e)) (hte : ap.ty e = some te) (hs : 0 < te.sz) {v : AV} (h : aslice H te.sz x low high mx = some v) :
    ∃ v', (Instr.slice t x' low' high' mx').run P w = .ok v' w ∧ VR φ v v' := by
  obtain ⟨i1, d1, z1, ht1⟩ := hg.get hte
  have hsz := run_sizeOf' ht1 w
  cases hx <;> simp [isSlice] at hxs
  · -- nil
    simp only [aslice] at h
    obtain ⟨m, e1, h⟩ := Option.bind_eq_some_iff.1 h
    obtain ⟨k, e2, h⟩ := Option.bind_eq_some_iff.1 h
    obtain ⟨l, e3, h⟩ := Option.bind_eq_some_iff.1 h
    split at h
    · cases h
    · rename_i hc
      simp at h
      subst h
      refine ⟨.slice none 0 0, ?_, .sliceN _ _⟩
      have b0 : ∀ {x : Option AV} {x' : Option Value} {n : Nat}, (match x with | some v => abound 0 v | none => some 0) = some n → Option.Rel (VR φ) x x' → ∀ v, x' = some v → ∀ (c : BoundsCode), (Instr.sliceBound v 0 c).run P w = .ok 0 w := by
        intro x x' n hh hrel v hv c
        have := (run_obound (P := P) hh hrel).1 v hv c w
        rw [show n = 0 by omega] at this
        exact this.1
      have q1 := b0 e1 hmx
      have q2 := b0 e2 hhi
      have q3 := b0 e3 hlo
      cases hmx with
      | none =>
        cases hhi with
        | none => cases hlo with
          | none => simp [Instr.slice, run_underlying ht, Instr.sliceBounds, hsz]
          | some => simp [Instr.slice, run_underlying ht, Instr.sliceBounds, hsz, q3 _ rfl]
        | some => cases hlo with
          | none => simp [Instr.slice, run_underlying ht, Instr.sliceBounds, hsz, q2 _ rfl]
          | some => simp [Instr.slice, run_underlying ht, Instr.sliceBounds, hsz, q2 _ rfl, q3 _ rfl]
      | some =>
        cases hhi with
        | none => simp at hc
        | some => cases hlo with
          | none => simp [Instr.slice, run_underlying ht, Instr.sliceBounds, hsz, q1 _ rfl, q2 _ rfl]
          | some => simp [Instr.slice, run_underlying ht, Instr.sliceBounds, hsz, q1 _ rfl, q2 _ rfl, q3 _ rfl]
  · -- a slice
    rename_i b o len cap sz p a' cap' hp ha hl hR hc
    simp only [aslice] at h
    split at h
    · cases h
    · rename_i hsz0
      have hsz0 : sz = te.sz := by simpa using hsz0
      subst hsz0
      cases hmx with
      | none =>
        cases hhi with
        | none =>
          simp only at h
          obtain ⟨l, e3, h⟩ := Option.bind_eq_some_iff.1 h
          cases h
          have hll : l ≤ len := by
            rcases bd e3 with ⟨_, rfl⟩ | ⟨v, rfl, hv⟩
            · omega
            · cases hlo with | some hv' => exact (run_bound (P := P) hv' .sliceB w hv).2
          refine ⟨_, ?_, vr_cut (len := len) (cap := cap) hp ha hR hll hl (Nat.le_refl cap') ?_⟩
          · cases hlo with
            | none => simp at e3; subst e3; simp [Instr.slice, run_underlying ht, Instr.sliceBounds, hsz]
            | some hv => simp [Instr.slice, run_underlying ht, Instr.sliceBounds, hsz, (run_bound (P := P) hv _ w e3).1]
          · rcases hc with ⟨c, rfl, rfl⟩ | ⟨rfl, hc⟩
            · exact .inl rfl
            · exact .inr ⟨rfl, rfl, hc⟩
        | some hv1 =>
          rename_i A1 V1
          simp only at h
          obtain ⟨k, e2, h⟩ := Option.bind_eq_some_iff.1 h
          obtain ⟨l, e3, h⟩ := Option.bind_eq_some_iff.1 h
          cases h
          have hk : (∀ c, (Instr.sliceBound V1 cap' c).run P w = .ok k w) ∧ k ≤ cap' := by
            rcases hc with ⟨c, rfl, rfl⟩ | ⟨rfl, hc⟩
            · exact ⟨fun c => (run_bound (P := P) hv1 c w e2).1, (run_bound (P := P) hv1 .index w e2).2⟩
            · have lift : ∀ {y : Nat}, abound y A1 = some k → k ≤ cap' → ∀ c, (Instr.sliceBound V1 cap' c).run P w = .ok k w := by
                intro y hy hky c
                refine (run_bound (P := P) hv1 c w ?_).1
                cases hv1 <;> simp only [abound] at hy ⊢ <;> try (cases hy; done)
                split at hy
                · cases hy; rw [if_pos (by omega)]
                · cases hy
              simp only at e2
              cases e4 : abound len A1 with
              | some k' =>
                rw [e4] at e2
                simp at e2; subst e2
                have := (run_bound (P := P) hv1 .index w e4).2
                exact ⟨lift e4 (by omega), by omega⟩
              | none =>
                rw [e4] at e2
                simp only [Option.orElse] at e2
                obtain ⟨r, f1, e2⟩ := Option.bind_eq_some_iff.1 e2
                obtain ⟨k', f2, e2⟩ := Option.bind_eq_some_iff.1 e2
                split at e2
                · rename_i hkr
                  simp at e2; subst e2
                  obtain ⟨md, f3, _⟩ := rowOf_some f1
                  obtain ⟨c, e, fr, g1, g2, g3, g4, _⟩ := hr.row hp f3
                  have hle : k' ≤ cap' := by
                    have : k' * te.sz ≤ cap' * te.sz := by omega
                    exact Nat.le_of_mul_le_mul_right this hs
                  exact ⟨lift f2 hle, hle⟩
                · cases e2
          have hll : l ≤ k := by
            rcases bd e3 with ⟨_, rfl⟩ | ⟨v, rfl, hv⟩
            · omega
            · cases hlo with | some hv' => exact (run_bound (P := P) hv' .sliceB w hv).2
          refine ⟨_, ?_, vr_cut (len := len) (cap := cap) hp ha hR hll hk.2 (Nat.le_refl cap') ?_⟩
          · cases hlo with
            | none => simp at e3; subst e3; simp [Instr.slice, run_underlying ht, Instr.sliceBounds, hsz, hk.1]
            | some hv => simp [Instr.slice, run_underlying ht, Instr.sliceBounds, hsz, hk.1, (run_bound (P := P) hv _ w e3).1]
          · rcases hc with ⟨c, rfl, rfl⟩ | ⟨rfl, hc⟩
            · exact .inl rfl
            · exact .inr ⟨rfl, rfl, hc⟩
      | some hv0 =>
        rename_i A0 V0
        cases hhi with
        | none => cases h
        | some hv1 =>
          simp only at h
          obtain ⟨m, e1, h⟩ := Option.bind_eq_some_iff.1 h
          obtain ⟨k, e2, h⟩ := Option.bind_eq_some_iff.1 h
          obtain ⟨l, e3, h⟩ := Option.bind_eq_some_iff.1 h
          cases h
          have hm : (∀ c, (Instr.sliceBound V0 cap' c).run P w = .ok m w) ∧ m ≤ cap' := by
            rcases hc with ⟨c, rfl, rfl⟩ | ⟨rfl, hc⟩
            · exact ⟨fun c => (run_bound (P := P) hv0 c w e1).1, (run_bound (P := P) hv0 .index w e1).2⟩
            · simp only at e1
              have h1 := (run_bound (P := P) hv0 .index w e1).2
              refine ⟨fun c => (run_bound (P := P) hv0 c w ?_).1, by omega⟩
              cases hv0 <;> simp only [abound] at e1 ⊢ <;> try (cases e1; done)
              split at e1
              · cases e1; rw [if_pos (by omega)]
              · cases e1
          have hk := (run_bound (P := P) hv1 .slice3B w e2)
          have hll : l ≤ k := by
            rcases bd e3 with ⟨_, rfl⟩ | ⟨v, rfl, hv⟩
            · omega
            · cases hlo with | some hv' => exact (run_bound (P := P) hv' .sliceB w hv).2
          refine ⟨_, ?_, vr_cut (len := len) (cap := cap) hp ha hR hll hk.2 hm.2 (.inl rfl)⟩
          cases hlo with
          | none => simp at e3; subst e3; simp [Instr.slice, run_underlying ht, Instr.sliceBounds, hsz, hm.1, hk.1]
          | some hv => simp [Instr.slice, run_underlying ht, Instr.sliceBounds, hsz, hm.1, hk.1, (run_bound (P := P) hv _ w e3).1]
end
end Go.Ab
