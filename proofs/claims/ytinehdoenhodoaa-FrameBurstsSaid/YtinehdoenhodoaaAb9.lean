import Derived.Test.YtinehdoenhodoaaAb8
/-! All operations that are no calls of functions, together. -/
set_option linter.unusedVariables false
set_option linter.unusedSimpArgs false
namespace Go.Ab
section
variable {P : Program} {ap : AP} {φ : Inj} {H : AH} {w : World}

theorem isU8_some (hg : TyAgree P ap) {e : TypeId} (h : isU8 ap e = true) : P.underlying e = some (.int .u8) := by
  unfold isU8 at h
  split at h
  · rename_i ti ht
    obtain ⟨i, d, z, hk⟩ := hg.get ht
    split at h
    · rename_i htd
      exact td_int hk htd
    · cases h
  · cases h
theorem foldl_strN (ns : List Int) (s : ByteArray) : ns.foldl (fun r n => r.push (UInt8.ofNat n.toNat)) s = ⟨s.data ++ (ns.map fun n => UInt8.ofNat n.toNat).toArray⟩ := by
  induction ns generalizing s with
  | nil => simp
  | cons n r ih =>
    rw [List.foldl_cons, ih]
    congr 1
    apply Array.ext'
    simp [ByteArray.push]
theorem strN_eq (ns : List Int) : ns.foldl (fun r n => r.push (UInt8.ofNat n.toNat)) ByteArray.empty = strN ns := by
  rw [foldl_strN]
  unfold strN
  congr 1
  simp [ByteArray.empty, ByteArray.emptyWithCapacity]
  rfl
theorem numsAV_er : ∀ (l : List AV) (cs : List Value) (ns : List Int), ER φ l cs.toArray → numsAV l = some ns → cs = ns.map (Value.int .u8)
  | [], [], ns, _, h => by simp only [numsAV] at h; cases h; rfl
  | [], c :: cs, ns, h0, _ => by have := h0.1; simp at this
  | a :: l, [], ns, h0, _ => by have := h0.1; simp at this
  | a :: l, c :: cs, ns, h0, h => by
    have hv := h0.2 0 a c rfl rfl
    cases hv <;> (try (simp [numsAV] at h; done))
    rename_i k n
    cases k <;> (try (simp [numsAV] at h; done))
    simp only [numsAV] at h
    obtain ⟨ms, e1, e2⟩ := Option.map_eq_some_iff.1 h
    subst e2
    have ih := numsAV_er l cs ms ⟨by have := h0.1; simpa using this, fun i a v g1 g2 => h0.2 (i + 1) a v (by simpa using g1) (by simpa using g2)⟩ e1
    rw [ih]; rfl

theorem sound_convert (hg : TyAgree P ap) (hr : Rel φ H w.heap) {src dst : TypeId} {x : AV} {x' : Value} (hx : VR φ x x') {lo : Nat} {v : AV} {H' : AH} (h : aconvert ap lo H src dst x = some (v, H')) :
    ∃ v' w' φ', (Go.convert src dst x').run P w = .ok v' w' ∧ SimW φ H w φ' H' w' ∧ VR φ' v v' := by
  unfold aconvert at h
  replace h := Option.bind_eq_some_iff.1 h
  obtain ⟨ts, e1, h⟩ := h
  replace h := Option.bind_eq_some_iff.1 h
  obtain ⟨td, e2, h⟩ := h
  obtain ⟨i1, d1, z1, hs⟩ := hg.get e1
  obtain ⟨i2, d2, z2, hd⟩ := hg.get e2
  split at h
  · rename_i k0 k k1 n ht1 ht2
    cases hx
    obtain ⟨rfl, rfl⟩ := Prod.mk.inj (Option.some.inj h)
    refine ⟨_, w, φ, ?_, .refl hr, .int _ _⟩
    simp [Go.convert, run_underlying (td_int hs ht1), run_underlying (td_int hd ht2), Conv.intToInt]
  · rename_i s ht1 ht2
    cases hx
    obtain ⟨rfl, rfl⟩ := Prod.mk.inj (Option.some.inj h)
    refine ⟨_, w, φ, ?_, .refl hr, .str _⟩
    simp [Go.convert, run_underlying (td_string hs ht1), run_underlying (td_string hd ht2)]
  · rename_i e s ht1 ht2
    split at h
    · rename_i hu
      cases hx
      obtain ⟨rfl, rfl⟩ := Prod.mk.inj (Option.some.inj h)
      have hrun := Lib.run_convert_string_bytes (P := P) w src dst e s (td_string hs ht1) (td_slice hd ht2) (isU8_some hg hu)
      have hcs : (Lib.bytesCells w e s).size = grownCap w s.size 0 e := by
        have := grownCap_ge w s.size 0 e
        simp [Lib.bytesCells]; omega
      refine ⟨_, _, upd φ H.length ⟨w.heap.size, 0, grownCap w s.size 0 e⟩, hrun, ?_, ?_⟩
      · have hheap : (Lib.bytesWorld w e s).heap = w.heap.push (.cells (Lib.bytesCells w e s) e ((Lib.bytesCells w e s).size, (Lib.bytesCells w e s).size + 1)) := by
          apply Array.ext_getElem?
          intro j
          rcases Nat.lt_trichotomy j w.heap.size with hj | hj | hj
          · rw [Lib.bytesWorld_at_old w e s j hj, Array.getElem?_push, if_neg (by omega)]
          · subst hj
            rw [Lib.bytesWorld_at_new]; simp
          · rw [Array.getElem?_eq_none (by rw [Lib.bytesWorld_size]; omega), Array.getElem?_eq_none (by simp; omega)]
        refine ⟨?_, ⟨rfl, rfl, rfl⟩⟩
        rw [hheap]
        have hge := grownCap_ge w s.size 0 e
        have hsz : s.size = s.data.toList.length := rfl
        refine alloc_cells hr hcs (by simp; omega) ?_ (.inr (by show grownCap w s.size 0 e ≤ (Lib.bytesCells w e s).size; omega))
        have := er_str φ s.data.toList
        intro i a hi
        obtain ⟨v', k1, k2⟩ := this.lr i a hi
        refine ⟨v', ?_, k2⟩
        have hil : i < s.data.toList.length := by
          have := (List.getElem?_eq_some_iff.1 hi).1
          simpa using this
        rw [Nat.zero_add] at k1 ⊢
        unfold Lib.bytesCells
        rw [Array.getElem?_append_left (by simpa using hil)]
        simpa using k1
      · exact .slice _ _ _ _ _ ⟨w.heap.size, 0, grownCap w s.size 0 e⟩ _ _ (upd_self _ _ _) (.inl rfl) (grownCap_ge _ _ _ _) (by show 0 + 0 + _ * 1 ≤ grownCap w s.size 0 e; omega) (.inr ⟨rfl, by show 0 + 0 + _ * 1 = grownCap w s.size 0 e; omega⟩)
    · cases h
  · rename_i e a len cap sz ht1 ht2
    split at h
    · rename_i hu
      have hu8 := isU8_some hg hu
      have hrun : ∀ x', (Go.convert src dst (.slice x' len len)).run P w = (Go.convert src dst (.slice x' len len)).run P w := fun _ => rfl
      split at h
      · cases hx
        obtain ⟨rfl, rfl⟩ := Prod.mk.inj (Option.some.inj h)
        refine ⟨_, w, φ, ?_, .refl hr, .str _⟩
        simp [Go.convert, run_underlying (td_slice hs ht1), run_underlying (td_string hd ht2), run_underlying hu8, Conv.bytesToString]
      · split at h
        · rename_i hsz1
          subst hsz1
          replace h := Option.bind_eq_some_iff.1 h
          obtain ⟨l, e3, h⟩ := h
          replace h := Option.map_eq_some_iff.1 h
          obtain ⟨ns, e4, h⟩ := h
          obtain ⟨rfl, rfl⟩ := Prod.mk.inj h
          have hx0 := hx
          cases hx with
          | slice b o _ _ _ p a' cap' hp ha hl hR hc =>
            obtain ⟨cs, c1, c2, c3⟩ := sound_first (P := P) hr hx0 e3 (m := len) rfl (Nat.le_refl _) rfl
            have hcs := numsAV_er l cs ns c3 e4
            subst hcs
            refine ⟨_, w, φ, ?_, .refl hr, .str _⟩
            have hload : (loadCells a' len).run P w = .ok (ns.map (Value.int .u8)).toArray w := by
              simpa [Builtin.firstCells] using c2
            have := run_bytesToString (P := P) w a' len cap' ns hload
            rw [strN_eq] at this
            simp [Go.convert, run_underlying (td_slice hs ht1), run_underlying (td_string hd ht2), run_underlying hu8, this]
        · cases h
    · cases h
  · rename_i e0 e b o len cap s ht1 ht2
    split at h
    · rename_i hc
      simp only [Bool.and_eq_true, beq_iff_eq, decide_eq_true_eq] at hc
      obtain ⟨⟨hsd, hu⟩, hl0⟩ := hc
      have hu8 := isU8_some hg hu
      replace h := Option.map_eq_some_iff.1 h
      obtain ⟨l, e3, h⟩ := h
      obtain ⟨rfl, rfl⟩ := Prod.mk.inj h
      obtain ⟨e4, _⟩ := rowRw_some e3
      have hx0 := hx
      cases hx with
      | slice _ _ _ _ _ p a' cap' hp ha hl hR hcc =>
        have ha' : a' = ⟨p.blk, p.d + o, none⟩ := ha.resolve_right (by omega)
        subst ha'
        obtain ⟨c, e', fr, g1, g2, g3, g4, g5⟩ := hr.row hp e4
        have hsh : w.shape? p.blk = some (e', c.size) := by simp [World.shape?, g1]
        refine ⟨.slice (some ⟨p.blk, p.d + o, none⟩) len cap', w.freeze ⟨p.blk, c.size, none⟩ 1, φ, ?_, ?_, hx0⟩
        · simp [Go.convert, run_underlying (td_slice hs ht1), run_underlying (td_slice hd ht2), run_underlying hu8, hsd, markStringish, hsh]
        · have hheap : (w.freeze ⟨p.blk, c.size, none⟩ 1).heap = w.heap.setIfInBounds p.blk (.cells c e' (if fr.1 == fr.2 then (c.size, c.size + 1) else (min fr.1 c.size, max fr.2 (c.size + 1)))) := by
            have hlt := (Array.getElem?_eq_some_iff.1 g1).1
            apply Array.ext_getElem?
            intro k
            simp only [World.freeze]
            rw [if_neg (by decide), Array.getElem?_modify]
            by_cases hk : p.blk = k
            · subst hk; rw [Array.getElem?_setIfInBounds_self, if_pos rfl, if_pos hlt, g1]; rfl
            · rw [Array.getElem?_setIfInBounds_ne hk, if_neg hk]
          have hH : H.set b (.cells l .rw) = H := by
            apply List.ext_getElem?
            intro k
            by_cases hk : b = k
            · subst hk; rw [List.getElem?_set_self (List.getElem?_eq_some_iff.1 e4).1, e4]
            · rw [List.getElem?_set_ne hk]
          refine ⟨?_, ⟨rfl, rfl, rfl⟩⟩
          rw [hheap]
          have := Sim.write hr hp e4 (A' := .cells l .rw) rfl g1 (O' := .cells c e' (if fr.1 == fr.2 then (c.size, c.size + 1) else (min fr.1 c.size, max fr.2 (c.size + 1)))) (fun c1 e1 fr1 q => by cases q; exact ⟨_, _, _, rfl, rfl⟩)
            (.cells _ _ _ _ _ g2 g3 g4 (fun _ => by
              have := g5 rfl
              split
              · right; simp; omega
              · rename_i hne
                have hne : fr.1 ≠ fr.2 := by simpa using hne
                right
                simp only
                rcases this with h | h
                · exact absurd h hne
                · omega)) (.inl rfl)
          rwa [hH] at this
    · cases h
  · cases h

theorem zeroCells_eq (z : Array Value) (n : Nat) : Builtin.zeroCells z n = (Array.range (n * z.size)).map (z[· % z.size]!) := rfl

theorem sound_clear (hg : TyAgree P ap) (hr : Rel φ H w.heap) {b o n : Nat} {cap : Option Nat} {x' : Value} {e t : TypeId} {te : TI} (hte : ap.ty e = some te) (hx : VR φ (.slice (some (b, o)) n cap te.sz) x') {lo : Nat} {ts : Array TypeId}
    (h0 : ts[0]? = some t) (ht : P.underlying t = some (.slice e)) (ty : TypeId) (hn : n ≠ 0) {l : List AV} (hl : rowRw H lo b = some l) (hfit : o + n * te.sz ≤ l.length) (hone : te.zero.all AV.one = true) :
    ∃ w', (Builtin.clear_ ts ty #[x']).run P w = .ok (.tuple #[]) w' ∧ SimW φ H w φ (H.set b (.cells (splice l o (List.replicate n te.zero).flatten) .rw)) w' := by
  obtain ⟨i1, d1, z1, ht1⟩ := hg.get hte
  cases hx with
  | slice _ _ _ _ _ p a' cap' hp ha hll hR hc =>
    have ha' : a' = ⟨p.blk, p.d + o, none⟩ := ha.resolve_right (by omega)
    subst ha'
    have hz := er_zeros φ z1.cells n (n * z1.cells.size) rfl
    rw [← ht1.zero] at hz
    have hzl : te.zero.length = te.sz := by rw [ht1.zero]; simp [ht1.zs, ht1.sz]
    obtain ⟨w', s1, s2⟩ := hr.store (P := P) hp (rowRw_some hl).1 (vs := (Builtin.zeroCells z1.cells n).toList) (by rw [Array.toArray_toList, zeroCells_eq]; exact hz) (by rw [flat_len, hzl]; exact hfit) (by
      rw [List.all_eq_true] at hone ⊢
      intro a ha
      obtain ⟨m, h1, h2⟩ := List.mem_flatten.1 ha
      rw [List.eq_of_mem_replicate h1] at h2
      exact hone a h2)
    refine ⟨w', ?_, s2⟩
    cases n with
    | zero => exact absurd rfl hn
    | succ n => simp [Builtin.clear_, h0, run_underlying ht, zeroValue, typeInfo, ht1.hi, ht1.hz, s1]

theorem invoke_builtin (c : Call) (b : Builtin) (hb : c.callee = .builtin b) (ρ : Operand → Value) (ty : TypeId) (w : World) :
    ∃ consts, (do let d ← resolve ρ c ty; invoke d.target d.args : Sem Next).run P w = (Go.builtin b c.argTypes ty consts (c.args.map ρ)).run P w := by
  refine ⟨c.args.map fun | .const _ => true | _ => false, ?_⟩
  simp only [resolve, hb]
  rfl

theorem one_arg {φ : Inj} {x : AV} {l' : List Value} (h : ER φ [x] l'.toArray) : ∃ x', l' = [x'] ∧ VR φ x x' := by
  match l', h with
  | [], h => have := h.1; simp at this
  | [x'], h => exact ⟨x', rfl, h.2 0 x x' rfl rfl⟩
  | _ :: _ :: _, h => have := h.1; simp at this
theorem two_args {φ : Inj} {x y : AV} {l' : List Value} (h : ER φ [x, y] l'.toArray) : ∃ x' y', l' = [x', y'] ∧ VR φ x x' ∧ VR φ y y' := by
  match l', h with
  | [], h => have := h.1; simp at this
  | [_], h => have := h.1; simp at this
  | [x', y'], h => exact ⟨x', y', rfl, h.2 0 x x' rfl rfl, h.2 1 y y' rfl rfl⟩
  | _ :: _ :: _ :: _, h => have := h.1; simp at this

theorem sound_builtin (hg : TyAgree P ap) (hr : Rel φ H w.heap) {xs : List AV} {xs' : Array Value} (hx : ER φ xs xs') {b : Builtin} {ts : Array TypeId} {lo : Nat} {v : AV} {H' : AH} (h : abuiltin ap lo H b ts xs = some (v, H')) (ty : TypeId) (consts : Array Bool) :
    ∃ v' w' φ', (Go.builtin b ts ty consts xs').run P w = .ok (.value v') w' ∧ SimW φ H w φ' H' w' ∧ VR φ' v v' := by
  unfold abuiltin at h
  obtain ⟨l'⟩ := xs'
  split at h
  · -- len
    obtain ⟨x', rfl, hv⟩ := one_arg hx
    replace h := Option.bind_eq_some_iff.1 h
    obtain ⟨t, e1, h⟩ := h
    replace h := Option.bind_eq_some_iff.1 h
    obtain ⟨ti, e2, h⟩ := h
    obtain ⟨i, d, z, ht⟩ := hg.get e2
    split at h
    · rename_i s htd
      obtain ⟨rfl, rfl⟩ := Prod.mk.inj (Option.some.inj h)
      cases hv
      exact ⟨_, w, φ, by simp [Go.builtin, Builtin.len_, goInt, e1, run_underlying (td_string ht htd)], .refl hr, .int _ _⟩
    · rename_i e a n c s htd
      obtain ⟨rfl, rfl⟩ := Prod.mk.inj (Option.some.inj h)
      cases hv <;> exact ⟨_, w, φ, by simp [Go.builtin, Builtin.len_, goInt, e1, run_underlying (td_slice ht htd)], .refl hr, .int _ _⟩
    · rename_i n e htd
      obtain ⟨rfl, rfl⟩ := Prod.mk.inj (Option.some.inj h)
      exact ⟨_, w, φ, by simp [Go.builtin, Builtin.len_, goInt, e1, run_underlying (td_array ht htd)], .refl hr, .int _ _⟩
    · cases h
  · -- cap
    obtain ⟨x', rfl, hv⟩ := one_arg hx
    replace h := Option.bind_eq_some_iff.1 h
    obtain ⟨t, e1, h⟩ := h
    replace h := Option.bind_eq_some_iff.1 h
    obtain ⟨ti, e2, h⟩ := h
    obtain ⟨i, d, z, ht⟩ := hg.get e2
    split at h
    · rename_i e a n c s htd
      obtain ⟨rfl, rfl⟩ := Prod.mk.inj (Option.some.inj h)
      cases hv with
      | slice _ _ _ _ _ p a' cap' hp ha hl hR hc =>
        have hcc : cap' = c := by
          rcases hc with ⟨c', hc1, hc2⟩ | ⟨hc1, _⟩
          · cases hc1; exact hc2
          · cases hc1
        subst hcc
        exact ⟨_, w, φ, by simp [Go.builtin, Builtin.cap_, goInt, e1, run_underlying (td_slice ht htd)], .refl hr, .int _ _⟩
    · rename_i e n c s htd
      obtain ⟨rfl, rfl⟩ := Prod.mk.inj (Option.some.inj h)
      cases hv
      exact ⟨_, w, φ, by simp [Go.builtin, Builtin.cap_, goInt, e1, run_underlying (td_slice ht htd)], .refl hr, .int _ _⟩
    · cases h
  · -- append
    obtain ⟨s', x', rfl, hs, hv⟩ := two_args hx
    replace h := Option.bind_eq_some_iff.1 h
    obtain ⟨t, e1, h⟩ := h
    replace h := Option.bind_eq_some_iff.1 h
    obtain ⟨ti, e2, h⟩ := h
    obtain ⟨i, d, z, ht⟩ := hg.get e2
    split at h
    · rename_i e htd
      replace h := Option.bind_eq_some_iff.1 h
      obtain ⟨te, e3, h⟩ := h
      obtain ⟨i1, d1, z1, ht1⟩ := hg.get e3
      split at h
      · rename_i hap
        have hT : ApT P ts t e i1 z1 := by
          refine ⟨e1, td_slice ht htd, ht1.hi, ht1.hz, ?_⟩
          unfold apT at hap
          cases hu : ts[1]? with
          | none => rw [hu] at hap; simp at hap
          | some u =>
            rw [hu] at hap
            simp only [Option.bind_some] at hap
            split at hap
            · rename_i tu etu
              obtain ⟨i2, d2, z2, ht2⟩ := hg.get etu
              split at hap
              · rename_i e' htd'
                exact ⟨u, _, rfl, td_slice ht2 htd', fun k => by simp⟩
              · rename_i htd'
                exact ⟨u, _, rfl, td_string ht2 htd', fun k => by simp⟩
              · cases hap
            · cases hap
        obtain ⟨v', w', φ', k1, k2, k3⟩ := sound_append hg hr hs hv ht1 hT ty h
        exact ⟨v', w', φ', by simp [Go.builtin, k1], k2, k3⟩
      · split at h
        · rename_i hapi
          have hu : ∃ u, ts[1]? = some u ∧ P.underlying u = some (.int .i64) := by
            unfold apI at hapi
            cases hu : ts[1]? with
            | none => rw [hu] at hapi; simp at hapi
            | some u =>
              rw [hu] at hapi
              simp only [Option.bind_some] at hapi
              split at hapi
              · rename_i tu etu
                obtain ⟨i2, d2, z2, ht2⟩ := hg.get etu
                split at hapi
                · rename_i htd'
                  exact ⟨u, rfl, td_int ht2 htd'⟩
                · cases hapi
              · cases hapi
          obtain ⟨u, hu1, hu2⟩ := hu
          obtain ⟨v', w', φ', k1, k2, k3⟩ := sound_appendZ hg hr hs hv ht1 e1 (td_slice ht htd) hu1 hu2 ty h
          exact ⟨v', w', φ', by simp [Go.builtin, k1], k2, k3⟩
        · cases h
    · cases h
  · -- copy
    obtain ⟨s', x', rfl, hs, hv⟩ := two_args hx
    replace h := Option.bind_eq_some_iff.1 h
    obtain ⟨t, e1, h⟩ := h
    replace h := Option.bind_eq_some_iff.1 h
    obtain ⟨ti, e2, h⟩ := h
    obtain ⟨i, d, z, ht⟩ := hg.get e2
    split at h
    · rename_i e htd
      replace h := Option.bind_eq_some_iff.1 h
      obtain ⟨te, e3, h⟩ := h
      obtain ⟨v', w', k1, k2, k3⟩ := sound_copy (P := P) hg hr hs hv e3 e1 (td_slice ht htd) ty h
      exact ⟨v', w', φ, by simp [Go.builtin, k1], k2, k3⟩
    · cases h
  · -- max
    obtain ⟨u, e1, e2⟩ := Option.map_eq_some_iff.1 h
    obtain ⟨rfl, rfl⟩ := Prod.mk.inj e2
    obtain ⟨v', k1, k2⟩ := sound_amm (P := P) hx true e1 ts ty w
    simp only [if_true] at k1
    exact ⟨v', w, φ, by simp [Go.builtin, k1], .refl hr, k2⟩
  · -- min
    obtain ⟨u, e1, e2⟩ := Option.map_eq_some_iff.1 h
    obtain ⟨rfl, rfl⟩ := Prod.mk.inj e2
    obtain ⟨v', k1, k2⟩ := sound_amm (P := P) hx false e1 ts ty w
    simp only [Bool.false_eq_true, if_false] at k1
    exact ⟨v', w, φ, by simp [Go.builtin, k1], .refl hr, k2⟩
  · -- clear
    obtain ⟨x', rfl, hv⟩ := one_arg hx
    replace h := Option.bind_eq_some_iff.1 h
    obtain ⟨t, e1, h⟩ := h
    replace h := Option.bind_eq_some_iff.1 h
    obtain ⟨ti, e2, h⟩ := h
    obtain ⟨i, d, z, ht⟩ := hg.get e2
    have hnil : VR φ (.tuple []) (.tuple #[]) := .tuple _ _ rfl (fun i a v h => by simp at h)
    split at h
    · rename_i e n c s htd
      obtain ⟨rfl, rfl⟩ := Prod.mk.inj (Option.some.inj h)
      cases hv
      exact ⟨_, w, φ, by simp [Go.builtin, Builtin.clear_, e1, run_underlying (td_slice ht htd)], .refl hr, hnil⟩
    · rename_i e b o n c s htd
      replace h := Option.bind_eq_some_iff.1 h
      obtain ⟨te, e3, h⟩ := h
      split at h
      · cases h
      · rename_i hs
        have hs : s = te.sz := by simpa using hs
        subst hs
        split at h
        · rename_i hn0
          obtain ⟨rfl, rfl⟩ := Prod.mk.inj (Option.some.inj h)
          subst hn0
          cases hv
          exact ⟨_, w, φ, by simp [Go.builtin, Builtin.clear_, e1, run_underlying (td_slice ht htd)], .refl hr, hnil⟩
        · rename_i hn0
          replace h := Option.bind_eq_some_iff.1 h
          obtain ⟨l, e4, h⟩ := h
          split at h
          · rename_i hfit
            obtain ⟨rfl, rfl⟩ := Prod.mk.inj (Option.some.inj h)
            obtain ⟨w', k1, k2⟩ := sound_clear (P := P) hg hr e3 hv e1 (td_slice ht htd) ty hn0 e4 hfit.1 hfit.2
            exact ⟨_, w', φ, by simp [Go.builtin, k1], k2, hnil⟩
          · cases h
    · cases h
  · cases h

/-- What an operation hands back: a value, or nothing. -/
def Gives (nx : Next) (v : Value) : Prop := nx = .value v ∨ (nx = .skip ∧ v = undef)

theorem sound_aop (hg : TyAgree P ap) (hr : Rel φ H w.heap) {env : List AV} {a : Act} (he : ER φ env a.tmps) {lo : Nat} {o : Oper} {v : AV} {H' : AH} (h : aop ap lo env H o.op = some (v, H')) :
    ∃ nx v' w' φ', (execOp a.eval o).run P w = .ok nx w' ∧ Gives nx v' ∧ SimW φ H w φ' H' w' ∧ VR φ' v v' := by
  obtain ⟨dst, op, type, pos, after, guard⟩ := o
  simp only at h
  have pure_ : ∀ {s : Sem Value} {v' : Value}, H' = H → s.run P w = .ok v' w → VR φ v v' → ∃ nx v' w' φ', ((do pure (Next.value (← s)) : Sem Next)).run P w = .ok nx w' ∧ Gives nx v' ∧ SimW φ H w φ' H' w' ∧ VR φ' v v' := by
    intro s v' e k1 k2
    subst e
    exact ⟨_, v', w, φ, by simp [k1], .inl rfl, .refl hr, k2⟩
  have val_ : ∀ {s : Sem Value}, (∃ v' w' φ', s.run P w = .ok v' w' ∧ SimW φ H w φ' H' w' ∧ VR φ' v v') → ∃ nx v' w' φ', ((do pure (Next.value (← s)) : Sem Next)).run P w = .ok nx w' ∧ Gives nx v' ∧ SimW φ H w φ' H' w' ∧ VR φ' v v' := by
    rintro s ⟨v', w', φ', k1, k2, k3⟩
    exact ⟨_, v', w', φ', by simp [k1], .inl rfl, k2, k3⟩
  cases op <;> simp only [execOp]
  case move x =>
    simp only [aop] at h
    obtain ⟨rfl, rfl⟩ := Prod.mk.inj (Option.some.inj h)
    exact ⟨_, _, w, φ, rfl, .inl rfl, .refl hr, vr_opd he x⟩
  case assign x =>
    simp only [aop] at h
    obtain ⟨rfl, rfl⟩ := Prod.mk.inj (Option.some.inj h)
    exact ⟨_, _, w, φ, rfl, .inl rfl, .refl hr, vr_opd he x⟩
  case pick c x y =>
    simp only [aop] at h
    have hc := vr_opd he c
    split at h
    · rename_i t ht
      obtain ⟨rfl, rfl⟩ := Prod.mk.inj (Option.some.inj h)
      rw [ht] at hc
      generalize a.eval c = cv at hc
      cases hc
      refine ⟨_, if t then a.eval x else a.eval y, w, φ, by simp [asBool], .inl rfl, .refl hr, ?_⟩
      cases t
      · simpa using vr_opd he y
      · simpa using vr_opd he x
    · cases h
  case alloc e =>
    simp only [aop] at h
    obtain ⟨ti, e1, h⟩ := Option.map_eq_some_iff.1 h
    obtain ⟨rfl, rfl⟩ := Prod.mk.inj h
    exact val_ (sound_alloc hg hr e1)
  case box e x =>
    simp only [aop] at h
    obtain ⟨cs, e1, h⟩ := Option.map_eq_some_iff.1 h
    obtain ⟨rfl, rfl⟩ := Prod.mk.inj h
    exact val_ (sound_box hr (vr_opd he x) e1)
  case build t parts =>
    obtain ⟨e, v', k1, k2⟩ := sound_build hg hr he h
    exact pure_ e k1 k2
  case buildSlice t len parts => exact val_ (sound_buildSlice hg hr he h)
  case load t x =>
    simp only [aop] at h
    obtain ⟨u, e1, h⟩ := Option.map_eq_some_iff.1 h
    obtain ⟨rfl, rfl⟩ := Prod.mk.inj h
    obtain ⟨v', k1, k2⟩ := sound_load (P := P) hg hr (vr_opd he x) e1
    exact pure_ rfl k1 k2
  case store t x y =>
    simp only [aop] at h
    obtain ⟨u, e1, h⟩ := Option.map_eq_some_iff.1 h
    obtain ⟨rfl, rfl⟩ := Prod.mk.inj h
    obtain ⟨w', k1, k2⟩ := sound_store (P := P) hg hr (vr_opd he x) (vr_opd he y) e1
    exact ⟨.skip, undef, w', φ, by simp [k1], .inr ⟨rfl, rfl⟩, k2, .undef _⟩
  case nilCheck x =>
    simp only [aop] at h
    have hc := vr_opd he x
    split at h
    · rename_i q hx
      obtain ⟨rfl, rfl⟩ := Prod.mk.inj (Option.some.inj h)
      rw [hx] at hc
      have hc0 := hc
      generalize a.eval x = cv at hc hc0
      cases hc with
      | ptr b o p hp => exact ⟨_, _, w, φ, rfl, .inl rfl, .refl hr, hc0⟩
    · rename_i f l1 l2 hx
      obtain ⟨rfl, rfl⟩ := Prod.mk.inj (Option.some.inj h)
      rw [hx] at hc
      have hc0 := hc
      generalize a.eval x = cv at hc hc0
      cases hc with
      | func => exact ⟨_, _, w, φ, rfl, .inl rfl, .refl hr, hc0⟩
    · rename_i l1 hx
      obtain ⟨rfl, rfl⟩ := Prod.mk.inj (Option.some.inj h)
      rw [hx] at hc
      have hc0 := hc
      generalize a.eval x = cv at hc hc0
      cases hc with
      | yield => exact ⟨_, _, w, φ, rfl, .inl rfl, .refl hr, hc0⟩
    · rename_i a1 n c s hx
      obtain ⟨rfl, rfl⟩ := Prod.mk.inj (Option.some.inj h)
      rw [hx] at hc
      have hc0 := hc
      generalize a.eval x = cv at hc hc0
      cases hc <;> exact ⟨_, _, w, φ, rfl, .inl rfl, .refl hr, hc0⟩
    · cases h
  case binOp op t x y yt =>
    simp only [aop] at h
    obtain ⟨u, e1, h⟩ := Option.map_eq_some_iff.1 h
    obtain ⟨rfl, rfl⟩ := Prod.mk.inj h
    obtain ⟨v', k1, k2⟩ := sound_bin (P := P) hg (vr_opd he x) (vr_opd he y) x y e1 w
    exact pure_ rfl k1 k2
  case unOp op t x =>
    simp only [aop] at h
    obtain ⟨u, e1, h⟩ := Option.map_eq_some_iff.1 h
    obtain ⟨rfl, rfl⟩ := Prod.mk.inj h
    obtain ⟨v', k1, k2⟩ := sound_un (P := P) (vr_opd he x) e1 w
    exact pure_ rfl k1 k2
  case convert s d x => exact val_ (sound_convert hg hr (vr_opd he x) h)
  case makeInterface t x =>
    simp only [aop] at h
    replace h := Option.bind_eq_some_iff.1 h
    obtain ⟨ti, e1, h⟩ := h
    obtain ⟨i, d, z, ht⟩ := hg.get e1
    have htd := ht.td
    have hrun : ∀ x', (ti.td ≠ .iface) → (Instr.makeInterface t x').run P w = .ok (.iface t x') w := by
      intro x' hne
      simp only [Instr.makeInterface, Sem.run_bind, run_underlying ht.hd, Result.andThen_ok]
      cases d <;> first | rfl | (simp only [tdOf] at htd; exact absurd (Option.some.inj htd).symm hne)
    split at h
    · cases h
    · cases h
    · rename_i h1 h2
      obtain ⟨rfl, rfl⟩ := Prod.mk.inj (Option.some.inj h)
      exact pure_ rfl (hrun _ (by simpa using h1)) (.iface _ _ _ (vr_opd he x))
  case makeFunc fn first caps =>
    simp only [aop] at h
    cases fn <;> simp only at h <;> try (cases h; done)
    obtain ⟨rfl, rfl⟩ := Prod.mk.inj (Option.some.inj h)
    have h1 := er_opds he first
    have h2 := er_opds he caps
    exact pure_ rfl (by simp only [Instr.makeFunc, Sem.run_pure]) (.func _ _ _ _ _ h1.1 h1.2 h2.1 h2.2)
  case makeSlice t l c => exact val_ (sound_makeSlice hg hr he h)
  case slice t x lo' hi mx =>
    simp only [aop] at h
    replace h := Option.bind_eq_some_iff.1 h
    obtain ⟨ti, e1, h⟩ := h
    obtain ⟨i, d, z, ht⟩ := hg.get e1
    have hx := vr_opd he x
    have r1 := rel_opt he lo'
    have r2 := rel_opt he hi
    have r3 := rel_opt he mx
    split at h
    · rename_i e htd
      replace h := Option.bind_eq_some_iff.1 h
      obtain ⟨te, e2, h⟩ := h
      split at h
      · cases h
      · rename_i hsz
        split at h
        · rename_i hsl
          obtain ⟨u, e3, h⟩ := Option.map_eq_some_iff.1 h
          obtain ⟨rfl, rfl⟩ := Prod.mk.inj h
          obtain ⟨v', k1, k2⟩ := sl_slice (P := P) hg hr hx hsl r1 r2 r3 (td_slice ht htd) e2 (by omega) e3
          refine pure_ rfl (v' := v') ?_ k2
          simp only [Instr.sliceAt, Sem.run_bind, run_underlying (td_slice ht htd), Result.andThen_ok]
          exact k1
        · cases h
    · rename_i htd
      split at h
      · cases h
      · rename_i hsl
        obtain ⟨u, e3, h⟩ := Option.map_eq_some_iff.1 h
        obtain ⟨rfl, rfl⟩ := Prod.mk.inj h
        generalize hxe : opd env x = xe at hx e3 hsl
        generalize a.eval x = xv at hx ⊢
        cases hx <;> simp [isSlice] at hsl <;> simp only [aslice] at e3 <;> try (cases e3; done)
        rename_i s
        have hm : optAll env mx = none := by
          cases hmx : optAll env mx with
          | none => rfl
          | some _ => rw [hmx] at e3; cases e3
        cases mx with
        | some m => simp [optAll] at hm
        | none =>
          have e4 : aslice H 1 (.str s) (optAll env lo') (optAll env hi) none = some u := by
            simp only [aslice]
            exact e3
          obtain ⟨v', k1, k2⟩ := str_slice (P := P) s r1 r2 (td_string ht htd) e4 w
          refine pure_ rfl (v' := v') ?_ k2
          simp only [Instr.sliceAt, Sem.run_bind, run_underlying (td_string ht htd), Result.andThen_ok]
          exact k1
    · cases h
  case fieldAddr t x f =>
    obtain ⟨e, v', k1, k2⟩ := sound_fieldAddr hg he h w
    exact pure_ e k1 k2
  case field t x f =>
    obtain ⟨e, v', k1, k2⟩ := sound_field hg he h w
    exact pure_ e k1 k2
  case indexAddr t x i =>
    obtain ⟨e, v', k1, k2⟩ := sound_indexAddr hg he h w
    exact pure_ e k1 k2
  case index t x i =>
    obtain ⟨e, v', k1, k2⟩ := sound_index hg he h w
    exact pure_ e k1 k2
  case extract x i =>
    obtain ⟨e, v', k1, k2⟩ := sound_extract he h w
    exact pure_ e k1 k2
  case call c =>
    simp only [aop] at h
    split at h
    · rename_i b hb
      obtain ⟨consts, hi⟩ := invoke_builtin (P := P) c b hb a.eval type w
      obtain ⟨v', w', φ', k1, k2, k3⟩ := sound_builtin (P := P) hg hr (er_opds he c.args) h type consts
      exact ⟨_, v', w', φ', hi.trans k1, .inl rfl, k2, k3⟩
    · cases h
  all_goals (simp only [aop] at h; cases h)
end
end Go.Ab
