import Derived.Test.YtinehdoenhodoaaAb5
/-! Fields, elements, made slices, calls of what is built in. -/
set_option linter.unusedVariables false
set_option linter.unusedSimpArgs false
namespace Go.Ab
section
variable {P : Program} {ap : AP} {φ : Inj} {H : AH} {w : World}

theorem td_struct {t : Nat} {ti : TI} {i : TypeInfo} {d : TypeDesc} {z : Value} (h : TyOk P t ti i d z) {fs : List (Nat × Nat)} (he : ti.td = .struct fs) :
    ∃ fields, P.underlying t = some (.struct fields) ∧ fields.toList.map (fun f => (f.offset, f.type)) = fs ∧ ∀ f ∈ fields.toList, f.name ≠ "_" := by
  have hd := h.td
  rw [he] at hd
  rw [h.hd]
  cases d <;> simp only [tdOf] at hd <;> try (cases hd; done)
  rename_i fields
  split at hd
  · rename_i hall
    cases hd
    exact ⟨fields, rfl, rfl, fun f hf => by simpa using List.all_eq_true.1 hall f hf⟩
  · cases hd
theorem td_array {t : Nat} {ti : TI} {i : TypeInfo} {d : TypeDesc} {z : Value} (h : TyOk P t ti i d z) {n e : Nat} (he : ti.td = .array n e) : P.underlying t = some (.array n e) := by
  have hd := h.td
  rw [he] at hd
  rw [h.hd]
  cases d <;> simp only [tdOf] at hd <;> first | (cases hd; done) | (cases hd; rfl) | (split at hd <;> cases hd)
theorem td_string {t : Nat} {ti : TI} {i : TypeInfo} {d : TypeDesc} {z : Value} (h : TyOk P t ti i d z) (he : ti.td = .string) : P.underlying t = some .string := by
  have hd := h.td
  rw [he] at hd
  rw [h.hd]
  cases d <;> simp only [tdOf] at hd <;> first | (cases hd; done) | (cases hd; rfl) | (split at hd <;> cases hd)
theorem td_int {t : Nat} {ti : TI} {i : TypeInfo} {d : TypeDesc} {z : Value} (h : TyOk P t ti i d z) {k : IntKind} (he : ti.td = .int k) : P.underlying t = some (.int k) := by
  have hd := h.td
  rw [he] at hd
  rw [h.hd]
  cases d <;> simp only [tdOf] at hd <;> first | (cases hd; done) | (cases hd; rfl) | (split at hd <;> cases hd)

theorem sound_part (hg : TyAgree P ap) {t : Nat} {ti : TI} (ht : ap.ty t = some ti) {l : List AV} {c : Array Value} (h : ER φ l c) {o : Nat} {v : AV} (hp : Ab.part ti.td.isAgg ti.sz l o = some v) (w : World) :
    ∃ v', (Go.part t c o).run P w = .ok v' w ∧ VR φ v v' := by
  obtain ⟨i, d, z, hk⟩ := hg.get ht
  unfold Ab.part at hp
  cases hagg : ti.td.isAgg
  · rw [hagg] at hp
    simp only [Bool.false_eq_true, if_false] at hp
    obtain ⟨v', k1, k2⟩ := h.lr o v hp
    rw [Nat.zero_add] at k1
    refine ⟨v', ?_, k2⟩
    simp [Go.part, run_isAgg' hk, hagg, k1]
  · rw [hagg] at hp
    simp only [if_true] at hp
    split at hp
    · rename_i hlen
      cases hp
      have hsz := h.1
      refine ⟨.agg (c.extract o (o + ti.sz)), ?_, .agg _ _ ?_ ?_⟩
      · simp [Go.part, run_isAgg' hk, hagg, run_sizeOf' hk]
      · simp; omega
      · intro j a v h1 h2
        have hj : j < ti.sz := by
          have := (List.getElem?_eq_some_iff.1 h1).1
          simp at this; omega
        rw [List.getElem?_take_of_lt hj, List.getElem?_drop] at h1
        rw [Array.getElem?_extract] at h2
        split at h2
        · exact h.2 _ _ _ h1 h2
        · cases h2
    · cases hp

theorem sound_field (hg : TyAgree P ap) {t f lo : Nat} {env : List AV} {a : Act} (he : ER φ env a.tmps) {x : Operand} {v : AV} {H' : AH} (h : aop ap lo env H (.field t x f) = some (v, H')) (w : World) :
    H' = H ∧ ∃ v', (Instr.field t (a.eval x) f).run P w = .ok v' w ∧ VR φ v v' := by
  simp only [aop] at h
  obtain ⟨ti, e1, h⟩ := Option.bind_eq_some_iff.1 h
  obtain ⟨i, d, z, ht⟩ := hg.get e1
  have hx := vr_opd he x
  split at h
  · rename_i fs l htd hl
    obtain ⟨fd, e2, h⟩ := Option.bind_eq_some_iff.1 h
    obtain ⟨tf, e3, h⟩ := Option.bind_eq_some_iff.1 h
    obtain ⟨v1, e4, h⟩ := Option.map_eq_some_iff.1 h
    cases h
    obtain ⟨fields, f1, f2, _⟩ := td_struct ht htd
    rw [hl] at hx
    generalize a.eval x = y at hx
    cases hx with
    | agg _ c h1 h2 =>
      rw [← f2, List.getElem?_map] at e2
      obtain ⟨fl, g1, rfl⟩ := Option.map_eq_some_iff.1 e2
      obtain ⟨v', k1, k2⟩ := sound_part (φ := φ) hg e3 ⟨h1, h2⟩ e4 w
      refine ⟨rfl, v', ?_, k2⟩
      rw [Array.getElem?_toList] at g1
      simp [Instr.field, run_underlying f1, g1, asAgg, k1]
  · cases h

theorem sound_fieldAddr (hg : TyAgree P ap) {t f lo : Nat} {env : List AV} {a : Act} (he : ER φ env a.tmps) {x : Operand} {v : AV} {H' : AH} (h : aop ap lo env H (.fieldAddr t x f) = some (v, H')) (w : World) :
    H' = H ∧ ∃ v', (Instr.fieldAt t (a.eval x) f).run P w = .ok v' w ∧ VR φ v v' := by
  simp only [aop] at h
  obtain ⟨ti, e1, h⟩ := Option.bind_eq_some_iff.1 h
  obtain ⟨i, d, z, ht⟩ := hg.get e1
  have hx := vr_opd he x
  split at h
  · rename_i fs b o htd hl
    obtain ⟨fd, e2, h⟩ := Option.bind_eq_some_iff.1 h
    obtain ⟨tf, e3, h⟩ := Option.bind_eq_some_iff.1 h
    split at h
    · cases h
    · rename_i hsz
      cases h
      obtain ⟨fields, f1, f2, _⟩ := td_struct ht htd
      obtain ⟨i1, d1, z1, ht1⟩ := hg.get e3
      rw [hl] at hx
      generalize a.eval x = y at hx
      cases hx with
      | ptr _ _ p hp =>
        rw [← f2, List.getElem?_map] at e2
        obtain ⟨fl, g1, rfl⟩ := Option.map_eq_some_iff.1 e2
        rw [Array.getElem?_toList] at g1
        refine ⟨rfl, .pointer (some ⟨p.blk, p.d + (o + fl.offset), none⟩), ?_, .ptr _ _ p hp⟩
        simp [Instr.fieldAt, run_underlying f1, g1, Instr.sureAddr, fieldPlace, run_sizeOf' ht1, hsz, addr_add, Nat.add_assoc]
  · cases h

theorem sound_indexAddr (hg : TyAgree P ap) {t lo : Nat} {env : List AV} {a : Act} (he : ER φ env a.tmps) {x ix : Operand} {v : AV} {H' : AH} (h : aop ap lo env H (.indexAddr t x ix) = some (v, H')) (w : World) :
    H' = H ∧ ∃ v', (Instr.indexAt t (a.eval x) (a.eval ix)).run P w = .ok v' w ∧ VR φ v v' := by
  simp only [aop] at h
  obtain ⟨ti, e1, h⟩ := Option.bind_eq_some_iff.1 h
  obtain ⟨i, d, z, ht⟩ := hg.get e1
  have hx := vr_opd he x
  have hix := vr_opd he ix
  split at h
  · rename_i e b o len cap s k n htd hl hl2
    obtain ⟨te, e2, h⟩ := Option.bind_eq_some_iff.1 h
    obtain ⟨i1, d1, z1, ht1⟩ := hg.get e2
    split at h
    · rename_i hc
      obtain ⟨hss, h0, h1⟩ := hc
      cases h
      subst hss
      rw [hl] at hx; rw [hl2] at hix
      generalize a.eval x = y at hx
      generalize a.eval ix = y2 at hix
      cases hix
      cases hx with
      | slice _ _ _ _ _ p a' cap' hp ha hlen hR hcc =>
        refine ⟨rfl, .pointer (some ⟨p.blk, p.d + (o + n.toNat * te.sz), none⟩), ?_, .ptr _ _ p hp⟩
        have ha' : a' = ⟨p.blk, p.d + o, none⟩ := ha.resolve_right (by omega)
        subst ha'
        simp [Instr.indexAt, asIntOf, run_underlying (td_slice ht htd), h0, h1, run_sizeOf' ht1, addr_add, Nat.add_assoc]
    · cases h
  · rename_i m e b o k n htd hl hl2
    obtain ⟨te, e2, h⟩ := Option.bind_eq_some_iff.1 h
    obtain ⟨i1, d1, z1, ht1⟩ := hg.get e2
    split at h
    · rename_i hc
      obtain ⟨h0, h1⟩ := hc
      cases h
      rw [hl] at hx; rw [hl2] at hix
      generalize a.eval x = y at hx
      generalize a.eval ix = y2 at hix
      cases hix
      cases hx with
      | ptr _ _ p hp =>
        refine ⟨rfl, .pointer (some ⟨p.blk, p.d + (o + n.toNat * te.sz), none⟩), ?_, .ptr _ _ p hp⟩
        simp [Instr.indexAt, asIntOf, run_underlying (td_array ht htd), Instr.sureAddr, h0, h1, run_sizeOf' ht1, addr_add, Nat.add_assoc]
    · cases h
  · cases h

theorem sound_index (hg : TyAgree P ap) {t lo : Nat} {env : List AV} {a : Act} (he : ER φ env a.tmps) {x ix : Operand} {v : AV} {H' : AH} (h : aop ap lo env H (.index t x ix) = some (v, H')) (w : World) :
    H' = H ∧ ∃ v', (Instr.index t (a.eval x) (a.eval ix)).run P w = .ok v' w ∧ VR φ v v' := by
  simp only [aop] at h
  obtain ⟨ti, e1, h⟩ := Option.bind_eq_some_iff.1 h
  obtain ⟨i, d, z, ht⟩ := hg.get e1
  have hx := vr_opd he x
  have hix := vr_opd he ix
  split at h
  · rename_i s k n htd hl hl2
    split at h
    · rename_i h0
      obtain ⟨c, e2, h⟩ := Option.map_eq_some_iff.1 h
      cases h
      rw [hl] at hx; rw [hl2] at hix
      generalize a.eval x = y at hx
      generalize a.eval ix = y2 at hix
      cases hix
      cases hx
      refine ⟨rfl, .int .u8 c.toNat, ?_, .int _ _⟩
      have e3 : s[n.toNat]? = some c := by
        rw [Array.getElem?_toList] at e2
        obtain ⟨h1, h2⟩ := Array.getElem?_eq_some_iff.1 e2
        rw [getElem?_pos s n.toNat (by simpa using h1)]
        exact congrArg some h2
      simp [Instr.index, asIntOf, run_underlying (td_string ht htd), h0, e3]
    · cases h
  · rename_i m e l k n htd hl hl2
    obtain ⟨te, e2, h⟩ := Option.bind_eq_some_iff.1 h
    obtain ⟨i1, d1, z1, ht1⟩ := hg.get e2
    split at h
    · rename_i hc
      obtain ⟨h0, h1⟩ := hc
      obtain ⟨v1, e4, h⟩ := Option.map_eq_some_iff.1 h
      cases h
      rw [hl] at hx; rw [hl2] at hix
      generalize a.eval x = y at hx
      generalize a.eval ix = y2 at hix
      cases hix
      cases hx with
      | agg _ c g1 g2 =>
        obtain ⟨v', k1, k2⟩ := sound_part (φ := φ) hg e2 ⟨g1, g2⟩ e4 w
        refine ⟨rfl, v', ?_, k2⟩
        simp [Instr.index, asIntOf, run_underlying (td_array ht htd), h0, h1, run_sizeOf' ht1, k1]
    · cases h
  · cases h

theorem sound_extract {env : List AV} {a : Act} (he : ER φ env a.tmps) {lo i : Nat} {x : Operand} {v : AV} {H' : AH} (h : aop ap lo env H (.extract x i) = some (v, H')) (w : World) :
    H' = H ∧ ∃ v', (Instr.extract (a.eval x) i).run P w = .ok v' w ∧ VR φ v v' := by
  simp only [aop] at h
  have hx := vr_opd he x
  split at h
  · rename_i l hl
    obtain ⟨v1, e1, h⟩ := Option.map_eq_some_iff.1 h
    cases h
    rw [hl] at hx
    generalize a.eval x = y at hx
    cases hx with
    | tuple _ c g1 g2 =>
      obtain ⟨v', k1, k2⟩ := (show ER φ l c from ⟨g1, g2⟩).lr i v e1
      rw [Nat.zero_add] at k1
      exact ⟨rfl, v', by simp [Instr.extract, k1], k2⟩
  · cases h

theorem sound_makeSlice (hg : TyAgree P ap) (hr : Rel φ H w.heap) {env : List AV} {a : Act} (he : ER φ env a.tmps) {t lo : Nat} {l c : Operand} {v : AV} {H' : AH}
    (h : aop ap lo env H (.makeSlice t l c) = some (v, H')) :
    ∃ v' w' φ', (Instr.makeSlice t (a.eval l) (a.eval c)).run P w = .ok v' w' ∧ SimW φ H w φ' H' w' ∧ VR φ' v v' := by
  simp only [aop] at h
  obtain ⟨ti, e1, h⟩ := Option.bind_eq_some_iff.1 h
  obtain ⟨i, d, z, ht⟩ := hg.get e1
  cases htd : ti.td <;> rw [htd] at h <;> try (cases h; done)
  rename_i e
  simp only at h
  obtain ⟨te, e2, h⟩ := Option.bind_eq_some_iff.1 h
  obtain ⟨i1, d1, z1, ht1⟩ := hg.get e2
  have hl := vr_opd he l
  have hc := vr_opd he c
  split at h
  · rename_i n m hn hm
    rw [hn] at hl; rw [hm] at hc
    generalize a.eval l = y at hl
    generalize a.eval c = y2 at hc
    cases hl; cases hc
    split at h
    · rename_i hcond
      obtain ⟨h0, h1, h2, h3, h4⟩ := hcond
      cases h
      have hz := er_zeros φ z1.cells m.toNat (m.toNat * i1.size) (by rw [ht1.zs])
      rw [← ht1.zero] at hz
      have hw1 : IntKind.i64.wrap n = n := by
        simp only [IntKind.wrap, IntKind.signed, IntKind.bits, Bool.true_and]
        split <;> rename_i hh <;> simp at hh <;> omega
      have hw2 : IntKind.i64.wrap m = m := by
        simp only [IntKind.wrap, IntKind.signed, IntKind.bits, Bool.true_and]
        split <;> rename_i hh <;> simp at hh <;> omega
      have hby := ht1.by_
      have hs := ht1.sz
      unfold room at h2
      refine ⟨.slice (some ⟨w.heap.size, 0, none⟩) n.toNat m.toNat, w.alloc (.cells ((Array.range (m.toNat * i1.size)).map (z1.cells[· % z1.cells.size]!)) e),
        upd φ H.length ⟨w.heap.size, 0, m.toNat * i1.size⟩, ?_, ⟨alloc_cells hr (by simp) (by have := hz.1; simp at this; rw [List.length_flatten]; simp; omega) hz.lr (.inl rfl), ⟨rfl, rfl, rfl⟩⟩, ?_⟩
      · have hbm : (i1.bytes : Int) * m = m * te.by_ := by rw [hby, Int.mul_comm]
        have c1 : ¬ (m < 0) := by omega
        have c2 : ¬ (281474976710656 < (i1.bytes : Int) * m) := by rw [hbm]; omega
        have c3 : ¬ (n < 0) := by omega
        have c4 : ¬ (m < n) := by omega
        have c5 : ¬ (140737488355328 < m.toNat * i1.bytes) := by
          have : ((m.toNat * i1.bytes : Nat) : Int) = m * te.by_ := by rw [hby]; simp; rw [Int.max_eq_left (by omega)]
          omega
        by_cases hz0 : m.toNat * i1.size = 0
        · have hm0 : m.toNat = 0 := by
            rcases Nat.mul_eq_zero.1 hz0 with h | h
            · exact h
            · omega
          obtain rfl : m = 0 := by omega
          obtain rfl : n = 0 := by omega
          simp [Instr.makeSlice, run_underlying (td_slice ht htd), asInt, asIntOf, typeInfo, ht1.hi, hw1, askRoom, roomBytes, sizeOf, newRow, show ∀ f : Nat → Value, Array.map f (Array.range 0) = #[] from fun f => Array.eq_empty_of_size_eq_zero (by simp)]
        · simp [Instr.makeSlice, run_underlying (td_slice ht htd), asInt, asIntOf, typeInfo, ht1.hi, hw1, hw2, c1, c2, c3, c4, askRoom, roomBytes, c5, sizeOf, hz0, zeroValue, ht1.hz, newRow]
      · refine .slice _ _ _ _ _ ⟨w.heap.size, 0, m.toNat * i1.size⟩ _ _ (upd_self _ _ _) (.inl rfl) (by omega) ?_ (.inl ⟨m.toNat, rfl, rfl⟩)
        show 0 + 0 + m.toNat * te.sz ≤ m.toNat * i1.size
        rw [hs]; omega
    · cases h
  · cases h
end
end Go.Ab
