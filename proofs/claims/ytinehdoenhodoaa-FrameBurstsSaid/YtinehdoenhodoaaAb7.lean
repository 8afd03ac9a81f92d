import Derived.Test.YtinehdoenhodoaaAb6
/-! append, copy, clear. -/
set_option linter.unusedVariables false
set_option linter.unusedSimpArgs false
namespace Go.Ab
section
variable {P : Program} {ap : AP} {φ : Inj} {H : AH} {w : World}

theorem run_lenOf {x : AV} {x' : Value} (hx : VR φ x x') {n : Nat} (h : Ab.lenOf x = some n) (w : World) : (Builtin.lenOf x').run P w = .ok n w := by
  cases hx <;> simp [Ab.lenOf] at h <;> subst h <;> simp [Builtin.lenOf]
theorem str_cells (s : ByteArray) (n : Nat) : ((s.extract 0 n).data.map fun b => Value.int .u8 b.toNat) = ((s.data.toList.take n).map fun b => Value.int .u8 b.toNat).toArray := by
  apply Array.ext'
  simp
theorem er_str (φ : Inj) (l : List UInt8) : ER φ (l.map fun b => AV.int .u8 b.toNat) (l.map fun b => Value.int .u8 b.toNat).toArray := by
  refine ⟨by simp, fun i a v h1 h2 => ?_⟩
  rw [List.getElem?_toArray, List.getElem?_map] at h2
  rw [List.getElem?_map] at h1
  cases e : l[i]? with
  | none => rw [e] at h1; cases h1
  | some b => rw [e] at h1 h2; cases h1; cases h2; exact .int _ _

theorem sound_first (hr : Rel φ H w.heap) {x : AV} {x' : Value} (hx : VR φ x x') {sz n m : Nat} {xs : List AV} (h : firstC H sz n x = some xs) (hl : Ab.lenOf x = some m) (hn : n ≤ m) (hs : szOk sz x = true) :
    ∃ cs : List Value, cs.length = n * sz ∧ (Builtin.firstCells sz n x').run P w = .ok cs.toArray w ∧ ER φ xs cs.toArray := by
  cases hx <;> simp only [firstC] at h <;> try (cases h; done)
  · -- a string
    rename_i s
    cases h
    simp [Ab.lenOf] at hl; subst hl
    simp [szOk] at hs; subst hs
    refine ⟨(s.data.toList.take n).map fun b => Value.int .u8 b.toNat, by simp; omega, ?_, er_str φ _⟩
    simp only [Builtin.firstCells, str_cells, Sem.run_pure]
  · -- nil
    cases h
    simp [Ab.lenOf] at hl; subst hl
    obtain rfl : n = 0 := by omega
    exact ⟨[], by simp, by simp [Builtin.firstCells], er_nil φ⟩
  · rename_i b o len cap sz' p a' cap' hp ha hll hR hc
    simp [Ab.lenOf] at hl; subst hl
    obtain ⟨l, e1, h⟩ := Option.bind_eq_some_iff.1 h
    split at h
    · rename_i hlen
      cases h
      obtain ⟨md, e2, _⟩ := rowOf_some e1
      obtain ⟨cs, k1, k2, k3⟩ := hr.cellsAt hp e2 hlen
      refine ⟨cs, k1, ?_, k3⟩
      simp only [Builtin.firstCells]
      rcases ha with rfl | ha
      · rw [← k1]; exact run_loadCells_list w _ cs k2
      · obtain rfl : n = 0 := by omega
        have : cs = [] := by apply List.eq_nil_of_length_eq_zero; omega
        subst this
        rw [Nat.zero_mul]
        exact run_loadCells_list w a' [] (fun j v hj => by simp at hj)
    · cases h

/-- The types of append's arguments. -/
structure ApT (P : Program) (ts : Array TypeId) (t e : Nat) (i : TypeInfo) (z : Value) : Prop where
  h0 : ts[0]? = some t
  ht : P.underlying t = some (.slice e)
  hi : P.info? e = some i
  hz : i.zero = some z
  h1 : ∃ u d, ts[1]? = some u ∧ P.underlying u = some d ∧ ∀ k, d ≠ .int k

theorem run_append_in {ts : Array TypeId} {t e : Nat} {i : TypeInfo} {z : Value} (hT : ApT P ts t e i z) (ty : TypeId) {a : Addr} {len cap n : Nat} {x' : Value} {cs : List Value} {w' : World} (hle : len + n ≤ cap)
    (hn : (Builtin.lenOf x').run P w = .ok n w) (hf : (Builtin.firstCells i.size n x').run P w = .ok cs.toArray w) (hst : (storeCells (a.add (len * i.size)) cs).run P w = .ok () w') :
    (Builtin.append_ ts ty #[.slice (some a) len cap, x']).run P w = .ok (.slice (some a) (len + n) cap) w' := by
  obtain ⟨u, d, hu, hd, hk⟩ := hT.h1
  have hm : (match d with | .int _ => true | _ => false) = false := by
    cases d <;> first | rfl | exact absurd rfl (hk _)
  simp [Builtin.append_, hT.h0, hu, run_underlying hT.ht, run_underlying hd, sizeOf, typeInfo, hT.hi, hm, hn, hle, hf, hst]
theorem run_append_same {ts : Array TypeId} {t e : Nat} {i : TypeInfo} {z : Value} (hT : ApT P ts t e i z) (ty : TypeId) {a : Option Addr} {len cap : Nat} {x' : Value} (hle : len ≤ cap)
    (hn : (Builtin.lenOf x').run P w = .ok 0 w) (hf : (Builtin.firstCells i.size 0 x').run P w = .ok #[] w) :
    (Builtin.append_ ts ty #[.slice a len cap, x']).run P w = .ok (.slice a len cap) w := by
  obtain ⟨u, d, hu, hd, hk⟩ := hT.h1
  have hm : (match d with | .int _ => true | _ => false) = false := by
    cases d <;> first | rfl | exact absurd rfl (hk _)
  cases a <;> simp [Builtin.append_, hT.h0, hu, run_underlying hT.ht, run_underlying hd, sizeOf, typeInfo, hT.hi, hm, hn, hle, hf, storeCells]
theorem run_append_new {ts : Array TypeId} {t e : Nat} {i : TypeInfo} {z : Value} (hT : ApT P ts t e i z) (ty : TypeId) {a : Option Addr} {len cap n : Nat} {x' : Value} {cs os : List Value} (hgt : cap < len + n)
    (hn : (Builtin.lenOf x').run P w = .ok n w) (hf : (Builtin.firstCells i.size n x').run P w.drew = .ok cs.toArray w.drew) (hfo : (Builtin.firstCells i.size len (.slice a len cap)).run P w.drew = .ok os.toArray w.drew)
    (hb : (len + n) * i.bytes ≤ 140737488355328) (h63 : ((len + n : Nat) : Int) ≤ 9223372036854775807) :
    (Builtin.append_ ts ty #[.slice a len cap, x']).run P w = .ok (.slice (some ⟨w.heap.size, 0, none⟩) (len + n) (grownCap w (len + n) cap e))
      (w.drew.alloc (.cells (os.toArray ++ cs.toArray ++ Builtin.zeroCells z.cells (grownCap w (len + n) cap e - (len + n))) e)) := by
  obtain ⟨u, d, hu, hd, hk⟩ := hT.h1
  have hm : (match d with | .int _ => true | _ => false) = false := by
    cases d <;> first | rfl | exact absurd rfl (hk _)
  have hle : ¬ (len + n ≤ cap) := by omega
  have h63' : ¬ (9223372036854775807 < ((len : Int) + (n : Int))) := by omega
  have h48' : ¬ (281474976710656 < Builtin.nextslicecap (len + n) cap * i.bytes) := by
    have := growslice_fits hgt hb
    omega
  simp [Builtin.append_, hT.h0, hu, run_underlying hT.ht, run_underlying hd, sizeOf, typeInfo, zeroValue, hT.hi, hT.hz, hm, hn, hle, h63', h48', Question.forced, hf, hfo, newRow, grownCap]
  congr 2
  apply Array.ext'
  simp
theorem grownCap_ge (w : World) (need old : Nat) (e : TypeId) : need ≤ grownCap w need old e := by
  unfold grownCap Question.cut
  exact Nat.le_add_right _ _

theorem er_append {l m : List AV} {c d : Array Value} (h : ER φ l c) (g : ER φ m d) : ER φ (l ++ m) (c ++ d) := by
  have h1 := h.1
  have g1 := g.1
  refine ⟨by simp; omega, fun i a v e1 e2 => ?_⟩
  by_cases hi : i < l.length
  · rw [List.getElem?_append_left hi] at e1
    rw [Array.getElem?_append_left (by omega)] at e2
    exact h.2 i a v e1 e2
  · rw [List.getElem?_append_right (by omega)] at e1
    rw [Array.getElem?_append_right (by omega)] at e2
    rw [h1] at e1
    exact g.2 _ a v e1 e2
theorem zeroCells_size (z : Array Value) (n : Nat) : (Builtin.zeroCells z n).size = n * z.size := by simp [Builtin.zeroCells]
theorem lr_front {l : List AV} {c d : Array Value} (h : ER φ l c) : LR φ l (c ++ d) 0 := fun i a e => by
  have hi : i < l.length := (List.getElem?_eq_some_iff.1 e).1
  have h1 := h.1
  obtain ⟨v, k1, k2⟩ := h.lr i a e
  rw [Nat.zero_add] at k1 ⊢
  exact ⟨v, by rw [Array.getElem?_append_left (by omega)]; exact k1, k2⟩

/-- What grows: a new row. -/
theorem grow_alloc {hp : Array Obj} (hr : Rel φ H hp) {os cs : List Value} {xs ys : List AV} (ho : ER φ xs os.toArray) (hc : ER φ ys cs.toArray) {z : Array Value} {sz len n G : Nat} (hz : z.size = sz) (h1 : os.length = len * sz) (h2 : cs.length = n * sz)
    (hG : len + n ≤ G) (e : TypeId) :
    Sim φ H hp (upd φ H.length ⟨hp.size, 0, G * sz⟩) (H ++ [.cells (xs ++ ys) .rw]) (hp.push (.cells (os.toArray ++ cs.toArray ++ Builtin.zeroCells z (G - (len + n))) e)) ∧
      VR (upd φ H.length ⟨hp.size, 0, G * sz⟩) (.slice (some (H.length, 0)) (len + n) none sz) (.slice (some ⟨hp.size, 0, none⟩) (len + n) G) := by
  have hoc := er_append ho hc
  have e1 := mulsub (c := sz) hG
  have e2 : (len + n) * sz = len * sz + n * sz := Nat.add_mul ..
  have hsz : (os.toArray ++ cs.toArray ++ Builtin.zeroCells z (G - (len + n))).size = G * sz := by
    rw [Array.size_append, Array.size_append, zeroCells_size, hz]
    simp only [List.size_toArray]
    omega
  refine ⟨alloc_cells hr hsz ?_ (lr_front hoc) (.inl rfl), .slice _ _ _ _ _ ⟨hp.size, 0, G * sz⟩ _ _ (upd_self _ _ _) (.inl rfl) hG (by show 0 + 0 + G * sz ≤ G * sz; omega) (.inr ⟨rfl, by show 0 + 0 + G * sz = G * sz; omega⟩)⟩
  have := hoc.1
  rw [this]
  simp
  omega

/-- How append runs where so many cells are added. -/
structure AppRuns (P : Program) (ts : Array TypeId) (ty e : TypeId) (i : TypeInfo) (z : Value) (x' : Value) (n : Nat) (cs cs' : List Value) (w : World) : Prop where
  inp : ∀ {a : Addr} {len cap : Nat} {w' : World}, len + n ≤ cap → (storeCells (a.add (len * i.size)) cs).run P w = .ok () w' → (Builtin.append_ ts ty #[.slice (some a) len cap, x']).run P w = .ok (.slice (some a) (len + n) cap) w'
  same : n = 0 → ∀ {a : Option Addr} {len cap : Nat}, len ≤ cap → (Builtin.append_ ts ty #[.slice a len cap, x']).run P w = .ok (.slice a len cap) w
  new : ∀ {a : Option Addr} {len cap : Nat} {os : List Value}, cap < len + n → (Builtin.firstCells i.size len (.slice a len cap)).run P w.drew = .ok os.toArray w.drew → (len + n) * i.bytes ≤ 140737488355328 → ((len + n : Nat) : Int) ≤ 9223372036854775807 →
    (Builtin.append_ ts ty #[.slice a len cap, x']).run P w = .ok (.slice (some ⟨w.heap.size, 0, none⟩) (len + n) (grownCap w (len + n) cap e))
      (w.drew.alloc (.cells (os.toArray ++ cs'.toArray ++ Builtin.zeroCells z.cells (grownCap w (len + n) cap e - (len + n))) e))
theorem sound_appendC (hg : TyAgree P ap) (hr : Rel φ H w.heap) {s : AV} {s' x' : Value} (hs : VR φ s s') {lo : Nat} {ts : Array TypeId} {e : Nat} {te : TI} {i : TypeInfo} {z : Value} {d : TypeDesc} (ht : TyOk P e te i d z) {ty : TypeId} {n : Nat} {cs cs' : List Value} {xs : List AV}
    (runs : AppRuns P ts ty e i z x' n cs cs' w) (c1 : cs.length = n * te.sz) (c3 : ER φ xs cs.toArray) (c1' : cs'.length = n * te.sz) (c3' : ER φ xs cs'.toArray) (hone : xs.all AV.one = true) (hso : szOk te.sz s = true) (hpos : 0 < te.sz) (hbp : 0 < te.by_) {v : AV} {H' : AH} (h : aappendC lo H te.sz te.by_ s n xs = some (v, H')) :
    ∃ v' w' φ', (Builtin.append_ ts ty #[s', x']).run P w = .ok v' w' ∧ SimW φ H w φ' H' w' ∧ VR φ' v v' := by
  unfold aappendC at h
  have hsz := ht.sz
  have hby := ht.by_
  have hzs : z.cells.size = te.sz := by rw [hsz]; exact ht.zs
  have bnd : ∀ {k : Nat}, k * te.by_ ≤ room → k * i.bytes ≤ 140737488355328 ∧ (k : Int) ≤ 9223372036854775807 := by
    intro k hk
    unfold room at hk
    refine ⟨by rw [← hby]; exact hk, ?_⟩
    have : k * 1 ≤ k * te.by_ := Nat.mul_le_mul_left k hbp
    omega
  cases hs <;> simp only at h <;> try (cases h; done)
  · -- nil
    split at h
    · cases h
    · split at h
      · rename_i hn0
        obtain ⟨rfl, rfl⟩ := Prod.mk.inj (Option.some.inj h)
        exact ⟨_, w, φ, runs.same hn0 (Nat.le_refl 0), .refl hr, .sliceN _ _⟩
      · rename_i hn0
        split at h
        · rename_i hroom
          obtain ⟨rfl, rfl⟩ := Prod.mk.inj (Option.some.inj h)
          have hb := bnd hroom
          rw [← Nat.zero_add n] at hb
          have hrun := runs.new (a := none) (len := 0) (cap := 0) (os := []) (by omega) (by simp [Builtin.firstCells]) hb.1 hb.2
          have hgr := grow_alloc hr (er_nil φ) c3' (z := z.cells) (len := 0) (n := n) (G := grownCap w (0 + n) 0 e) hzs (by simp) c1' (grownCap_ge _ _ _ _) e
          rw [Nat.zero_add, List.nil_append] at hgr
          rw [Nat.zero_add] at hrun
          exact ⟨_, _, _, hrun, ⟨hgr.1, ⟨rfl, rfl, rfl⟩⟩, hgr.2⟩
        · cases h
  · -- a slice
    rename_i b o len cap sz p a' cap' hp ha hll hR hc
    have hso : sz = te.sz := by simpa [szOk] using hso
    subst hso
    split at h
    · rename_i hn0
      obtain ⟨rfl, rfl⟩ := Prod.mk.inj (Option.some.inj h)
      exact ⟨_, w, φ, runs.same hn0 hll, .refl hr, .slice _ _ _ _ _ p _ _ hp ha hll hR hc⟩
    · rename_i hn0
      obtain ⟨l, e3, h⟩ := Option.bind_eq_some_iff.1 h
      obtain ⟨md, e4, hmd⟩ := rowOf_some e3
      split at h
      · rename_i hlen
        -- the slice's own cells
        obtain ⟨os, o1, o2, o3⟩ := hr.cellsAt (w := w.drew) hp e4 hlen
        have hfo : (Builtin.firstCells i.size len (.slice (some a') len cap')).run P w.drew = .ok os.toArray w.drew := by
          simp only [Builtin.firstCells]
          rcases ha with rfl | ha
          · rw [← hsz, ← o1]; exact run_loadCells_list w.drew _ os o2
          · obtain rfl : len = 0 := by omega
            have : os = [] := by apply List.eq_nil_of_length_eq_zero; omega
            subst this
            rw [Nat.zero_mul]
            exact run_loadCells_list w.drew a' [] (fun j v hj => by simp at hj)
        have grow : cap' < len + n → (len + n) * te.by_ ≤ room → ∀ {φ0 : Inj} {H0 : AH}, φ0 = φ → Rel φ0 H0 w.heap → 
            ∃ v' w' φ', (Builtin.append_ ts ty #[.slice (some a') len cap', x']).run P w = .ok v' w' ∧ SimW φ0 H0 w φ' (H0 ++ [.cells ((l.drop o).take (len * te.sz) ++ xs) .rw]) w' ∧ VR φ' (.slice (some (H0.length, 0)) (len + n) none te.sz) v' := by
          intro hlt hroom φ0 H0 q1 hr0
          subst q1
          have hb := bnd hroom
          have hrun := runs.new hlt hfo hb.1 hb.2
          have hgr := grow_alloc hr0 o3 c3' (z := z.cells) (len := len) (n := n) (G := grownCap w (len + n) cap' e) hzs o1 c1' (grownCap_ge _ _ _ _) e
          exact ⟨_, _, _, hrun, ⟨hgr.1, ⟨rfl, rfl, rfl⟩⟩, hgr.2⟩
        have inpl : len + n ≤ cap' → ∀ {l2 : List AV}, H[b]? = some (.cells l2 .rw) → o + (len + n) * te.sz ≤ l2.length → ∀ cap2, (∃ c, cap2 = some c ∧ cap' = c) ∨ (cap2 = none ∧ p.d + o + cap' * te.sz = p.R) →
            ∃ v' w' φ', (Builtin.append_ ts ty #[.slice (some a') len cap', x']).run P w = .ok v' w' ∧ SimW φ H w φ' (H.set b (.cells (splice l2 (o + len * te.sz) xs) .rw)) w' ∧ VR φ' (.slice (some (b, o)) (len + n) cap2 te.sz) v' := by
          intro hle l2 hl2 hroom cap2 hcap2
          have ha' : a' = ⟨p.blk, p.d + o, none⟩ := ha.resolve_right (by omega)
          subst ha'
          have hxl : xs.length = n * te.sz := by have := c3.1; simp at this; omega
          have hadd : (len + n) * te.sz = len * te.sz + n * te.sz := Nat.add_mul ..
          obtain ⟨w', s1, s2⟩ := hr.store (P := P) hp hl2 c3 (o := o + len * te.sz) (by omega) hone
          refine ⟨_, w', φ, runs.inp hle ?_, s2, .slice _ _ _ _ _ p _ _ hp (.inl rfl) hle hR hcap2⟩
          rw [addr_add, ← hsz, Nat.add_assoc]
          exact s1
        cases cap with
        | some c =>
          have hcc : cap' = c := by
            rcases hc with ⟨c', hc1, hc2⟩ | ⟨hc1, _⟩
            · cases hc1; exact hc2
            · cases hc1
          subst hcc
          simp only at h
          split at h
          · rename_i hle
            obtain ⟨l2, e5, h⟩ := Option.bind_eq_some_iff.1 h
            split at h
            · rename_i hfit
              obtain ⟨rfl, rfl⟩ := Prod.mk.inj (Option.some.inj h)
              exact inpl hle (rowRw_some e5).1 hfit _ (.inl ⟨_, rfl, rfl⟩)
            · cases h
          · rename_i hle
            split at h
            · rename_i hroom
              obtain ⟨rfl, rfl⟩ := Prod.mk.inj (Option.some.inj h)
              exact grow (by omega) hroom rfl hr
            · cases h
        | none =>
          have hcc : p.d + o + cap' * te.sz = p.R := by
            rcases hc with ⟨c', hc1, hc2⟩ | ⟨_, hc2⟩
            · cases hc1
            · exact hc2
          simp only at h
          split at h
          · rename_i hroom
            obtain ⟨l2, e5, h⟩ := Option.bind_eq_some_iff.1 h
            obtain ⟨e6, hlo⟩ := rowRw_some e5
            rw [e4] at e6
            have hll2 : l = l2 ∧ md = .rw := by cases e6; exact ⟨rfl, rfl⟩
            obtain ⟨rfl, rfl⟩ := hll2
            obtain ⟨c, e', fr, g1, g2, g3, g4, g5⟩ := hr.row hp e4
            split at h
            · rename_i hfit
              obtain ⟨rfl, rfl⟩ := Prod.mk.inj (Option.some.inj h)
              refine inpl ?_ e4 hfit _ (.inr ⟨rfl, hcc⟩)
              have : (len + n) * te.sz ≤ cap' * te.sz := by omega
              exact Nat.le_of_mul_le_mul_right this hpos
            · rename_i hfit
              obtain ⟨rfl, rfl⟩ := Prod.mk.inj (Option.some.inj h)
              by_cases hle : len + n ≤ cap'
              · -- in place, beyond what is known
                have ha' : a' = ⟨p.blk, p.d + o, none⟩ := ha.resolve_right (by omega)
                subst ha'
                have hxl : xs.length = n * te.sz := by have := c3.1; simp at this; omega
                have hcl : cs.length = n * te.sz := c1
                have hadd : (len + n) * te.sz = len * te.sz + n * te.sz := Nat.add_mul ..
                have hmul : (len + n) * te.sz ≤ cap' * te.sz := Nat.mul_le_mul_right _ hle
                have hst := run_storeCells_cells (P := P) p.blk (p.d + o + len * te.sz) cs 0 w (fun j hj => by
                    rw [cell_of g1]
                    have : p.d + o + len * te.sz + 0 + j < c.size := by omega
                    rw [Array.getElem?_eq_getElem this]; rfl) (fun j hj => frozen_of g1 (g5 rfl) (by omega)) (er_one c3 hone)
                refine ⟨_, w.setCells p.blk (p.d + o + len * te.sz) cs, upd φ H.length ⟨p.blk, p.d + o, p.R⟩, runs.inp hle ?_, ?_, ?_⟩
                · rw [addr_add, ← hsz]; exact hst
                · refine ⟨?_, str_setCells _ _ _ _⟩
                  rw [setCells_heap _ _ _ _ _ _ _ g1]
                  refine Sim.rename hr hp e4 g1 (setA_size _ _ _) ?_ ?_
                  · simp only [List.length_append, List.length_take, List.length_drop]; omega
                  · intro j a hj
                    by_cases hjl : j < len * te.sz
                    · rw [List.getElem?_append_left (by simp; omega), List.getElem?_take_of_lt hjl, List.getElem?_drop] at hj
                      rw [setA_out _ _ _ _ (by omega)]
                      have := g4 _ _ hj
                      rwa [← Nat.add_assoc] at this
                    · rw [List.getElem?_append_right (by simp; omega)] at hj
                      have hmin : ((l.drop o).take (len * te.sz)).length = len * te.sz := by simp; omega
                      rw [hmin] at hj
                      have hjx : j - len * te.sz < xs.length := (List.getElem?_eq_some_iff.1 hj).1
                      have hin := setA_in cs c (p.d + o + len * te.sz) (j - len * te.sz) (by omega) (by omega)
                      rw [show p.d + o + len * te.sz + (j - len * te.sz) = p.d + o + j by omega] at hin
                      refine ⟨cs[j - len * te.sz]'(by omega), by rw [hin, List.getElem?_eq_getElem], ?_⟩
                      exact c3.2 _ _ _ hj (by simp)
                · exact .slice _ _ _ _ _ ⟨p.blk, p.d + o, p.R⟩ _ _ (upd_self _ _ _) (.inl rfl) hle (by show p.d + o + 0 + cap' * te.sz ≤ p.R; omega) (.inr ⟨rfl, by show p.d + o + 0 + cap' * te.sz = p.R; omega⟩)
              · -- a new row; the old block is not used any more
                have hkill : SimW φ H w φ (H.set b (.cells [] .dead)) w := by
                  have := Sim.write hr hp e4 (A' := .cells [] .dead) rfl g1 (O' := .cells c e' fr) (fun c1 e1 fr1 q => by cases q; exact ⟨_, _, _, rfl, rfl⟩)
                    (.cells [] .dead c e' fr g2 (by simp; omega) (fun i a hi => by simp at hi) (fun q => by cases q)) (.inr trivial)
                  have heq : w.heap.setIfInBounds p.blk (.cells c e' fr) = w.heap := by
                    apply Array.ext_getElem?
                    intro k
                    by_cases hk : p.blk = k
                    · subst hk; rw [g1, Array.getElem?_setIfInBounds_self, if_pos (Array.getElem?_eq_some_iff.1 g1).1]
                    · rw [Array.getElem?_setIfInBounds_ne hk]
                  rw [heq] at this
                  exact ⟨this, .refl w⟩
                obtain ⟨v', w', φ', k1, k2, k3⟩ := grow (by omega) hroom rfl hkill.rel
                rw [List.length_set] at k3
                exact ⟨v', w', φ', k1, hkill.trans k2, k3⟩
          · cases h
      · cases h
theorem sound_append (hg : TyAgree P ap) (hr : Rel φ H w.heap) {s x : AV} {s' x' : Value} (hs : VR φ s s') (hx : VR φ x x') {lo : Nat} {ts : Array TypeId} {t e : Nat} {te : TI} {i : TypeInfo} {z : Value} {d : TypeDesc} (ht : TyOk P e te i d z)
    (hT : ApT P ts t e i z) (ty : TypeId) {v : AV} {H' : AH} (h : aappend lo H te.sz te.by_ s x = some (v, H')) :
    ∃ v' w' φ', (Builtin.append_ ts ty #[s', x']).run P w = .ok v' w' ∧ SimW φ H w φ' H' w' ∧ VR φ' v v' := by
  unfold aappend at h
  split at h
  · rename_i hcond
    simp only [Bool.and_eq_true, decide_eq_true_eq] at hcond
    obtain ⟨⟨hso, hxo⟩, hpos, hbp⟩ := hcond
    obtain ⟨n, e1, h⟩ := Option.bind_eq_some_iff.1 h
    obtain ⟨xs, e2, h⟩ := Option.bind_eq_some_iff.1 h
    split at h
    · cases h
    · rename_i hone
      have hone : xs.all AV.one = true := by simpa using hone
      have hsz := ht.sz
      have hby := ht.by_
      have hzs : z.cells.size = te.sz := by rw [hsz]; exact ht.zs
      obtain ⟨cs, c1, c2, c3⟩ := sound_first (P := P) hr hx e2 e1 (Nat.le_refl _) hxo
      obtain ⟨cs', c1', c2', c3'⟩ := sound_first (P := P) (w := w.drew) (φ := φ) (H := H) hr hx e2 e1 (Nat.le_refl _) hxo
      have hn := run_lenOf (P := P) hx e1 w
      have bnd : ∀ {k : Nat}, k * te.by_ ≤ room → k * i.bytes ≤ 140737488355328 ∧ (k : Int) ≤ 9223372036854775807 := by
        intro k hk
        unfold room at hk
        refine ⟨by rw [← hby]; exact hk, ?_⟩
        have : k * 1 ≤ k * te.by_ := Nat.mul_le_mul_left k hbp
        omega
      have runs : AppRuns P ts ty e i z x' n cs cs' w := ⟨fun hle hst => run_append_in hT ty hle hn (by rw [← hsz]; exact c2) hst, fun hn0 a len cap hle => by
        have hnil : cs = [] := by apply List.eq_nil_of_length_eq_zero; rw [c1, hn0]; simp
        rw [hn0] at hn c2
        rw [hnil] at c2
        exact run_append_same hT ty hle hn (by rw [← hsz]; exact c2), fun hgt hfo h1 h2 => run_append_new hT ty hgt hn (by rw [← hsz]; exact c2') hfo h1 h2⟩
      exact sound_appendC hg hr hs ht runs c1 c3 c1' c3' hone hso hpos hbp h
  · cases h
/-- append of noughts. -/
theorem sound_appendZ (hg : TyAgree P ap) (hr : Rel φ H w.heap) {s x : AV} {s' x' : Value} (hs : VR φ s s') (hx : VR φ x x') {lo : Nat} {ts : Array TypeId} {t e u : Nat} {te : TI} {i : TypeInfo} {z : Value} {d : TypeDesc} (ht : TyOk P e te i d z)
    (h0 : ts[0]? = some t) (hts : P.underlying t = some (.slice e)) (h1 : ts[1]? = some u) (hu : P.underlying u = some (.int .i64)) (ty : TypeId) {v : AV} {H' : AH} (h : aappendZ lo H te s x = some (v, H')) :
    ∃ v' w' φ', (Builtin.append_ ts ty #[s', x']).run P w = .ok v' w' ∧ SimW φ H w φ' H' w' ∧ VR φ' v v' := by
  unfold aappendZ at h
  split at h
  · rename_i m
    split at h
    · rename_i hc
      simp only [Bool.and_eq_true, decide_eq_true_eq] at hc
      obtain ⟨⟨⟨hso, hpos, hbp⟩, hm0, hmr⟩, hone⟩ := hc
      have hsz := ht.sz
      have hby := ht.by_
      have hzs : z.cells.size = te.sz := by rw [hsz]; exact ht.zs
      cases hx
      obtain ⟨n, hn⟩ : ∃ n, n = m.toNat := ⟨_, rfl⟩
      rw [← hn] at h hmr
      have hmn : m = (n : Int) := by omega
      subst hmn
      have hn1 : n * 1 ≤ n * te.by_ := Nat.mul_le_mul_left n hbp
      have hw : IntKind.i64.wrap (n : Int) = (n : Int) := by
        unfold room at hmr
        simp only [IntKind.wrap, IntKind.bits, IntKind.signed]
        simp
        omega
      have hlt : ¬ (n : Int) < 0 := by omega
      have h48 : ¬ (281474976710656 : Int) < (n : Int) * (i.bytes : Int) := by
        unfold room at hmr
        rw [hby] at hmr
        rw [← Int.natCast_mul]
        omega
      have hzl : te.zero.length = te.sz := by rw [ht.zero]; simp [ht.zs, ht.sz]
      obtain ⟨cs, hcs⟩ : ∃ cs, cs = (Builtin.zeroCells z.cells n).toList := ⟨_, rfl⟩
      have hca : cs.toArray = Builtin.zeroCells z.cells n := by rw [hcs, Array.toArray_toList]
      have c1 : cs.length = n * te.sz := by rw [hcs, Array.length_toList, zeroCells_size, hzs]
      have c3 : ER φ (List.replicate n te.zero).flatten cs.toArray := by
        rw [hca, ht.zero]
        exact er_zeros φ z.cells n (n * z.cells.size) rfl
      have hone' : (List.replicate n te.zero).flatten.all AV.one = true := by
        rw [List.all_eq_true] at hone ⊢
        intro a ha
        obtain ⟨q, g1, g2⟩ := List.mem_flatten.1 ha
        rw [List.eq_of_mem_replicate g1] at g2
        exact hone a g2
      have hz0 : n * i.size = 0 → cs = [] := fun h0 => by
        apply List.eq_nil_of_length_eq_zero
        rw [c1, hsz, h0]
      have runs : AppRuns P ts ty e i z (.int .i64 (n : Int)) n cs cs w := by
        refine ⟨fun {a len cap w'} hle hst => ?_, fun hn0 {a len cap} hle => ?_, fun {a len cap os} hgt hfo hb h63 => ?_⟩
        · by_cases hq : n * i.size = 0
          · rw [hz0 hq] at hst
            simp [Builtin.append_, h0, h1, run_underlying hts, run_underlying hu, sizeOf, typeInfo, zeroValue, ht.hi, ht.hz, asInt, asIntOf, hw, hlt, h48, hle, hq, hst]
          · simp [Builtin.append_, h0, h1, run_underlying hts, run_underlying hu, sizeOf, typeInfo, zeroValue, ht.hi, ht.hz, asInt, asIntOf, hw, hlt, h48, hle, hq, ← hcs, hst]
        · subst hn0
          have hlt0 : ¬ ((0 : Int) < 0) := by omega
          have w0 : IntKind.i64.wrap 0 = 0 := by decide
          cases a <;> simp [Builtin.append_, h0, h1, run_underlying hts, run_underlying hu, sizeOf, typeInfo, zeroValue, ht.hi, ht.hz, asInt, asIntOf, w0, hle, storeCells]
        · have hle : ¬ (len + n ≤ cap) := by omega
          have h63' : ¬ (9223372036854775807 < ((len : Int) + (n : Int))) := by omega
          have h48' : ¬ (281474976710656 < Builtin.nextslicecap (len + n) cap * i.bytes) := by
            have := growslice_fits hgt hb
            omega
          by_cases hq : n * i.size = 0
          · have hc0 := hz0 hq
            simp [Builtin.append_, h0, h1, run_underlying hts, run_underlying hu, sizeOf, typeInfo, zeroValue, ht.hi, ht.hz, asInt, asIntOf, hw, hlt, h48, hle, hq, h63', h48', Question.forced, hfo, newRow, grownCap, hc0]
          · simp [Builtin.append_, h0, h1, run_underlying hts, run_underlying hu, sizeOf, typeInfo, zeroValue, ht.hi, ht.hz, asInt, asIntOf, hw, hlt, h48, hle, hq, h63', h48', Question.forced, hfo, newRow, grownCap, ← hca]
            congr 2
            apply Array.ext'
            simp
      exact sound_appendC hg hr hs ht runs c1 c3 c1 c3 hone' hso hpos hbp h
    · cases h
  · cases h
end
end Go.Ab
