import Derived.Test.YtinehdoenhodoaaAb3
import Derived.Laws.Tables
import Derived.Great.BuildSlice
/-! Further operations. -/
set_option linter.unusedVariables false
set_option linter.unusedSimpArgs false
namespace Go.Ab
section
variable {P : Program} {ap : AP} {φ : Inj} {H : AH} {w : World}

theorem er_splice {l xs : List AV} {c : Array Value} {o : Nat} {vs : List Value} (h : ER φ l c) (hx : ER φ xs vs.toArray) (ho : o + xs.length ≤ l.length) : ER φ (splice l o xs) (setA c o vs) := by
  have h1 := lr_splice (d := 0) h.lr hx ho (by have := h.1; omega)
  rw [Nat.zero_add] at h1
  refine ⟨by rw [splice_len ho, setA_size]; exact h.1, fun i a v e1 e2 => ?_⟩
  obtain ⟨v', k1, k2⟩ := h1 i a e1
  rw [Nat.zero_add, e2] at k1
  cases k1; exact k2
theorem foldl_setA (off : Nat) : ∀ (l : List Value) (k : Nat) (c : Array Value), (l.zipIdx k).foldl (fun cs x => cs.setIfInBounds (off + x.2) x.1) c = setA c (off + k) l
  | [], _, _ => rfl
  | v :: r, k, c => by
    rw [List.zipIdx_cons, List.foldl_cons, foldl_setA off r (k + 1), setA, Nat.add_assoc]
theorem fill_step (cells : Array Value) (off : Nat) (v : Value) : v.cells.zipIdx.foldl (fun cs (x : Value × Nat) => cs.setIfInBounds (off + x.2) x.1) cells = setA cells off v.cells.toList := by
  rw [← Array.foldl_toList, Array.toList_zipIdx]
  exact foldl_setA off v.cells.toList 0 cells
theorem fill_sound {place place' : Nat → Option (Nat × Nat)} {env : List AV} {a : Act} (he : ER φ env a.tmps) (hp : ∀ i q, place i = some q → place' i = some q) :
    ∀ (ps : List (Nat × Operand)) (l cs : List AV) (c : Array Value), ER φ l c → afill place l (ps.map fun p => (p.1, opd env p.2)) = some cs →
      ∃ c', Instr.fill place' c (ps.map fun p => (p.1, a.eval p.2)) = some c' ∧ ER φ cs c'
  | [], l, cs, c, hc, h => by
    simp only [List.map_nil, afill] at h
    cases h
    exact ⟨c, rfl, hc⟩
  | (i, x) :: r, l, cs, c, hc, h => by
    simp only [List.map_cons, afill] at h
    obtain ⟨q, e1, h⟩ := Option.bind_eq_some_iff.1 h
    obtain ⟨ks, e2, h⟩ := Option.bind_eq_some_iff.1 h
    split at h
    · rename_i hq
      have hk := vr_cells (vr_opd he x) e2
      have hs := er_splice (vs := (a.eval x).cells.toList) hc (by simpa using hk) hq.2
      obtain ⟨c', k1, k2⟩ := fill_sound he hp r _ cs _ hs h
      refine ⟨c', ?_, k2⟩
      have h1 := hc.1
      have h2 := hk.1
      simp only [List.map_cons, Instr.fill, hp i q e1]
      rw [if_neg (by simp; omega), fill_step]
      exact k1
    · cases h


theorem flat_get (zl : List AV) : ∀ (n i : Nat), i < n * zl.length → (List.replicate n zl).flatten[i]? = zl[i % zl.length]?
  | 0, i, h => by simp at h
  | n + 1, i, h => by
    rw [List.replicate_succ, List.flatten_cons]
    by_cases hi : i < zl.length
    · rw [List.getElem?_append_left hi, Nat.mod_eq_of_lt hi]
    · rw [List.getElem?_append_right (by omega), flat_get zl n _ (by rw [Nat.succ_mul] at h; omega)]
      congr 1
      conv => rhs; rw [show i = (i - zl.length) + zl.length by omega, Nat.add_mod_right]
theorem flat_len (zl : List AV) (n : Nat) : (List.replicate n zl).flatten.length = n * zl.length := by simp
theorem er_zeros (φ : Inj) (zc : Array Value) (n m : Nat) (hm : m = n * zc.size) : ER φ (List.replicate n (zc.toList.map ofS)).flatten ((Array.range m).map (zc[· % zc.size]!)) := by
  refine ⟨by simp [hm], fun i a v h1 h2 => ?_⟩
  have hi : i < m := by
    have := (Array.getElem?_eq_some_iff.1 h2).1
    simpa using this
  rw [flat_get _ _ _ (by simpa [hm] using hi)] at h1
  simp only [List.length_map, Array.length_toList] at h1
  have hz : 0 < zc.size := by
    rcases Nat.eq_zero_or_pos zc.size with e | e
    · rw [e] at hm; omega
    · exact e
  have hlt : i % zc.size < zc.size := Nat.mod_lt _ hz
  rw [Array.getElem?_map] at h2
  simp [hi, hlt] at h2
  rw [List.getElem?_map] at h1
  simp [hlt] at h1
  subst h1; subst h2
  exact vr_ofS φ _

theorem parts_list (a : Act) (parts : Array (Nat × Operand)) : (parts.map fun (i, x) => (i, a.eval x)).toList = parts.toList.map fun p => (p.1, a.eval p.2) := by
  rw [Array.toList_map]
theorem mapM_some {α β : Type} (f : α → Option β) (g : α → β) : ∀ (l : List α), (∀ x ∈ l, f x = some (g x)) → l.mapM f = some (l.map g)
  | [], _ => rfl
  | x :: r, h => by
    rw [List.mapM_cons, h x (by simp), mapM_some f g r (fun y hy => h y (by simp [hy]))]
    rfl

theorem sound_build (hg : TyAgree P ap) (hr : Rel φ H w.heap) {env : List AV} {a : Act} (he : ER φ env a.tmps) {t lo : Nat} {parts : Array (Nat × Operand)} {v : AV} {H' : AH}
    (h : aop ap lo env H (.build t parts) = some (v, H')) :
    H' = H ∧ ∃ v', (Instr.build t (parts.map fun (i, x) => (i, a.eval x))).run P w = .ok v' w ∧ VR φ v v' := by
  simp only [aop] at h
  obtain ⟨ti, e1, h⟩ := Option.bind_eq_some_iff.1 h
  obtain ⟨i, d, z, ht⟩ := hg.get e1
  have hz := er_ofS φ z.cells
  rw [← ht.zero] at hz
  cases htd : ti.td <;> rw [htd] at h <;> try (cases h; done)
  case struct fs =>
    simp only at h
    split at h
    · cases h
    · rename_i hall
      obtain ⟨cs, e2, h⟩ := Option.map_eq_some_iff.1 h
      cases h
      refine ⟨rfl, ?_⟩
      have hd := ht.td
      rw [htd] at hd
      cases d <;> simp only [tdOf] at hd <;> try (cases hd; done)
      rename_i fields
      split at hd
      · cases hd
        have hplaces : fields.toList.mapM (fun f => (P.info? f.type).map fun i => (f.offset, i.size)) = some (fields.toList.map fun f => (f.offset, ((P.info? f.type).map (·.size)).getD 0)) := by
          refine mapM_some _ _ _ fun f hf => ?_
          have : (ap.ty f.type).isSome = true := by
            have h0 : List.all (List.map (fun f => (f.offset, f.type)) fields.toList) (fun f => (ap.ty f.2).isSome) = true := (Bool.not_eq_false _).mp hall
            exact List.all_eq_true.1 h0 (f.offset, f.type) (List.mem_map.2 ⟨f, hf, rfl⟩)
          obtain ⟨tf, etf⟩ := Option.isSome_iff_exists.1 this
          obtain ⟨i1, d1, z1, ht1⟩ := hg.get etf
          simp [ht1.hi]
        obtain ⟨c', k1, k2⟩ := fill_sound (place' := ((fields.toList.map fun f => (f.offset, ((P.info? f.type).map (·.size)).getD 0)).toArray[·]?)) he (fun i q hq => by
          obtain ⟨fd, f1, f2⟩ := Option.bind_eq_some_iff.1 hq
          obtain ⟨tf, f3, f4⟩ := Option.map_eq_some_iff.1 f2
          obtain ⟨i1, d1, z1, ht1⟩ := hg.get f3
          rw [List.getElem?_map] at f1
          obtain ⟨fl, g1, g2⟩ := Option.map_eq_some_iff.1 f1
          subst g2
          subst f4
          rw [List.getElem?_toArray, List.getElem?_map, g1]
          simp [ht1.hi, ht1.sz]) parts.toList ti.zero cs z.cells hz e2
        refine ⟨.agg c', run_build w t _ c' ?_, .agg _ _ k2.1 k2.2⟩
        rw [parts_list]
        simp only [Program.built, ht.hi, ht.hd, ht.hz, hplaces]
        exact k1
      · cases hd
  case array n e =>
    simp only at h
    obtain ⟨te, e3, h⟩ := Option.bind_eq_some_iff.1 h
    obtain ⟨cs, e2, h⟩ := Option.map_eq_some_iff.1 h
    cases h
    refine ⟨rfl, ?_⟩
    obtain ⟨i1, d1, z1, ht1⟩ := hg.get e3
    have hd := ht.td
    rw [htd] at hd
    cases d <;> simp only [tdOf] at hd <;> try (cases hd; done)
    · cases hd
      obtain ⟨c', k1, k2⟩ := fill_sound (place' := fun i => some (i * i1.size, i1.size)) he (fun i q hq => by rw [ht1.sz] at hq; exact hq) parts.toList ti.zero cs z.cells hz e2
      refine ⟨.agg c', run_build w t _ c' ?_, .agg _ _ k2.1 k2.2⟩
      rw [parts_list]
      simp only [Program.built, ht.hi, ht.hd, ht.hz, ht1.hi]
      exact k1
    · split at hd <;> cases hd

theorem td_slice {P : Program} {t : Nat} {ti : TI} {i : TypeInfo} {d : TypeDesc} {z : Value} (h : TyOk P t ti i d z) {e : Nat} (he : ti.td = .slice e) : P.underlying t = some (.slice e) := by
  have hd := h.td
  rw [he] at hd
  rw [h.hd]
  cases d <;> simp only [tdOf] at hd <;> first | (cases hd; done) | (cases hd; rfl) | (split at hd <;> cases hd)

theorem sound_buildSlice (hg : TyAgree P ap) (hr : Rel φ H w.heap) {env : List AV} {a : Act} (he : ER φ env a.tmps) {t len lo : Nat} {parts : Array (Nat × Operand)} {v : AV} {H' : AH}
    (h : aop ap lo env H (.buildSlice t len parts) = some (v, H')) :
    ∃ v' w' φ', (Instr.buildSlice t len (parts.map fun (i, x) => (i, a.eval x))).run P w = .ok v' w' ∧ SimW φ H w φ' H' w' ∧ VR φ' v v' := by
  simp only [aop] at h
  obtain ⟨ti, e1, h⟩ := Option.bind_eq_some_iff.1 h
  obtain ⟨i, d, z, ht⟩ := hg.get e1
  cases htd : ti.td <;> rw [htd] at h <;> try (cases h; done)
  rename_i e
  simp only at h
  obtain ⟨te, e3, h⟩ := Option.bind_eq_some_iff.1 h
  obtain ⟨i1, d1, z1, ht1⟩ := hg.get e3
  split at h
  · cases h
  · rename_i hsz
    obtain ⟨cs, e2, h⟩ := Option.map_eq_some_iff.1 h
    cases h
    have hs := ht1.sz
    obtain ⟨c', k1, k2⟩ := fill_sound (place' := fun i => some (i * i1.size, i1.size)) he (fun i q hq => by rw [ht1.sz] at hq; exact hq) parts.toList _ cs ((Array.range (len * i1.size)).map (z1.cells[· % z1.cells.size]!))
      (by rw [ht1.zero]; exact er_zeros φ z1.cells len _ (by rw [ht1.zs])) e2
    have hlen : cs.length = len * i1.size := by
      have h1 := k2.1
      have : ∀ (ps : List (Nat × Value)) (c c' : Array Value), Instr.fill (fun i => some (i * i1.size, i1.size)) c ps = some c' → c'.size = c.size := by
        intro ps
        induction ps with
        | nil => intro c c' h; simp only [Instr.fill] at h; cases h; rfl
        | cons p r ih =>
          intro c c' h
          obtain ⟨j, x⟩ := p
          simp only [Instr.fill] at h
          split at h
          · cases h
          · rw [ih _ _ h, fill_step, setA_size]
      rw [this _ _ _ k1] at h1
      simpa using h1
    refine ⟨.slice (some ⟨w.heap.size, 0, none⟩) len len, w.alloc (.cells c' e), upd φ H.length ⟨w.heap.size, 0, c'.size⟩, ?_, ⟨alloc_cells hr rfl (by have := k2.1; omega) k2.lr (.inl rfl), ⟨rfl, rfl, rfl⟩⟩, ?_⟩
    · rw [← parts_list] at k1
      by_cases h0 : len * i1.size = 0
      · have k1' : Instr.fill (fun i => some (i * i1.size, i1.size)) #[] (parts.map fun (i, x) => (i, a.eval x)).toList = some c' := by
          rw [h0, show Array.map (fun x => z1.cells[x % z1.cells.size]!) (Array.range 0) = #[] from Array.eq_empty_of_size_eq_zero (by simp)] at k1
          exact k1
        simp only [parts_list] at k1'
        have hm : ∀ f : Nat → Value, Array.map f (Array.range 0) = #[] := fun f => Array.eq_empty_of_size_eq_zero (by simp)
        simp [Instr.buildSlice, run_underlying (td_slice ht htd), sizeOf, typeInfo, zeroValue, ht1.hi, h0, hm, k1', newRow]
      · exact run_buildSlice w t e len _ c' i1 z1 (td_slice ht htd) ht1.hi ht1.hz (by rw [← hs]; omega) h0 k1
    · have hc : c'.size = len * i1.size := by rw [← k2.1]; exact hlen
      refine .slice _ _ _ _ _ ⟨w.heap.size, 0, c'.size⟩ _ _ (upd_self _ _ _) (.inl rfl) (Nat.le_refl _) ?_ (.inl ⟨len, rfl, rfl⟩)
      show 0 + 0 + len * te.sz ≤ c'.size
      rw [hc, hs]; omega
end
end Go.Ab
