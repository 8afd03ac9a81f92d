import Derived.Test.YtinehdoenhodoaaAb2
import Derived.Laws.Entries
import Derived.Laws.Cells
import Derived.Laws.Sem
import Derived.Laws.Append
import Derived.Room.Entries
import Derived.Laws.IdiomCopy
/-! Each operation of the model does what the abstract reading says: values, memory. -/
set_option linter.unusedVariables false
set_option linter.unusedSimpArgs false
namespace Go.Ab

def tdOf : TypeDesc → Option TD
  | .bool => some .bool
  | .int k => some (.int k)
  | .string => some .string
  | .pointer e => some (.ptr e)
  | .slice e => some (.slice e)
  | .array n e => some (.array n e)
  | .struct fs => if fs.toList.all (fun f => f.name != "_") then some (.struct (fs.toList.map fun f => (f.offset, f.type))) else none
  | .func .. => some .func
  | .interface _ => some .iface
  | _ => none
def tiOf (P : Program) (t : Nat) : Option TI :=
  (P.info? t).bind fun i => (P.underlying t).bind fun d => (tdOf d).bind fun td => i.zero.bind fun z =>
    if z.cells.size = i.size ∧ P.stoodInHeld t = false then some ⟨i.size, i.bytes, z.cells.toList.map ofS, td⟩ else none

structure TyOk (P : Program) (t : Nat) (ti : TI) (i : TypeInfo) (d : TypeDesc) (z : Value) : Prop where
  hi : P.info? t = some i
  hd : P.underlying t = some d
  td : tdOf d = some ti.td
  hz : i.zero = some z
  zs : z.cells.size = i.size
  sz : ti.sz = i.size
  by_ : ti.by_ = i.bytes
  zero : ti.zero = z.cells.toList.map ofS
  held : P.stoodInHeld t = false
theorem tiOf_some {P : Program} {t : Nat} {ti : TI} (h : tiOf P t = some ti) : ∃ i d z, TyOk P t ti i d z := by
  unfold tiOf at h
  obtain ⟨i, hi, h⟩ := Option.bind_eq_some_iff.1 h
  obtain ⟨d, hd, h⟩ := Option.bind_eq_some_iff.1 h
  obtain ⟨td, htd, h⟩ := Option.bind_eq_some_iff.1 h
  obtain ⟨z, hz, h⟩ := Option.bind_eq_some_iff.1 h
  split at h
  · rename_i hc
    cases h
    exact ⟨i, d, z, hi, hd, htd, hz, hc.1, rfl, rfl, rfl, hc.2⟩
  · cases h

structure TyAgree (P : Program) (ap : AP) : Prop where
  ty : ∀ t ti, ap.ty t = some ti → tiOf P t = some ti

theorem TyAgree.get {P : Program} {ap : AP} (h : TyAgree P ap) {t : Nat} {ti : TI} (e : ap.ty t = some ti) : ∃ i d z, TyOk P t ti i d z := tiOf_some (h.ty t ti e)

theorem vr_ofS (φ : Inj) (v : Value) : VR φ (ofS v) v := by
  unfold ofS
  split <;> first | exact .undef _ | constructor
theorem er_ofS (φ : Inj) (l : Array Value) : ER φ (l.toList.map ofS) l := by
  refine ⟨by simp, fun i a v h1 h2 => ?_⟩
  rw [List.getElem?_map] at h1
  rw [← Array.getElem?_toList] at h2
  rw [h2] at h1
  cases h1
  exact vr_ofS φ v
theorem vr_ofV (φ : Inj) (v : Value) : VR φ (ofV v) v := by
  cases v
  case agg cs => exact .agg _ _ (er_ofS φ cs).1 (er_ofS φ cs).2
  all_goals (simp only [ofV]; exact vr_ofS φ _)

theorem er_nil (φ : Inj) : ER φ [] #[] := ⟨rfl, fun i a v h => by simp at h⟩
theorem vr_opd {φ : Inj} {env : List AV} {a : Act} (h : ER φ env a.tmps) (x : Operand) : VR φ (opd env x) (a.eval x) := by
  cases x with
  | tmp t =>
    simp only [opd, Act.eval, Ab.get]
    cases e : env[t]? with
    | none => exact .undef _
    | some v =>
      have hlt : t < a.tmps.size := by
        have h1 : t < env.length := (List.getElem?_eq_some_iff.1 e).1
        exact h.1 ▸ h1
      have := h.2 t v a.tmps[t] e (by simp [hlt])
      simpa [Array.getD, hlt] using this
  | const v => exact vr_ofV φ v
  | global g => exact .undef _
  | func f => exact .func f [] [] #[] #[] rfl (er_nil φ).2 rfl (er_nil φ).2
theorem er_opds {φ : Inj} {env : List AV} {a : Act} (h : ER φ env a.tmps) (xs : Array Operand) : ER φ (xs.toList.map (opd env)) (xs.map a.eval) := by
  refine ⟨by simp, fun i v u h1 h2 => ?_⟩
  rw [List.getElem?_map] at h1
  rw [Array.getElem?_map] at h2
  rw [Array.getElem?_toList] at h1
  cases e : xs[i]? with
  | none => rw [e] at h1; cases h1
  | some x =>
    rw [e] at h1 h2
    cases h1; cases h2
    exact vr_opd h x

/-- The cells of a value. -/
theorem vr_cells {φ : Inj} {v : AV} {x : Value} (h : VR φ v x) {cs : List AV} (e : v.cells = some cs) : ER φ cs x.cells := by
  have h0 := h
  have one : ∀ (v : AV) (x : Value), VR φ v x → ER φ [v] #[x] := fun v x h0 => ⟨rfl, fun i a v h1 h2 => by
    cases i with
    | zero => simp at h1 h2; subst h1; subst h2; exact h0
    | succ i => simp at h1⟩
  cases h with
  | undef => cases e
  | agg l l' h1 h2 => cases e; exact ⟨h1, h2⟩
  | tuple => cases e
  | _ =>
    cases e
    exact one _ _ h0

section
variable {P : Program} {ap : AP} {φ : Inj} {H : AH} {w : World}

theorem rowOf_some {b : Nat} {l : List AV} (h : rowOf H b = some l) : ∃ md, H[b]? = some (.cells l md) ∧ md ≠ .dead := by
  unfold rowOf at h
  split at h
  · rename_i l' e; cases h; exact ⟨_, e, by simp⟩
  · rename_i l' e; cases h; exact ⟨_, e, by simp⟩
  · cases h
theorem rowRw_some {lo b : Nat} {l : List AV} (h : rowRw H lo b = some l) : H[b]? = some (.cells l .rw) ∧ lo ≤ b := by
  unfold rowRw at h
  split at h
  · cases h
  · split at h
    · rename_i hn l' e; cases h; exact ⟨e, by omega⟩
    · cases h
theorem rowRw_row {lo b : Nat} {l : List AV} (h : rowRw H lo b = some l) : rowOf H b = some l := by
  obtain ⟨e, _⟩ := rowRw_some h
  unfold rowOf
  rw [e]

/-- The model's cells of a block. -/
theorem Rel.row (hr : Rel φ H w.heap) {b : Nat} {p : PL} {l : List AV} {md : Md} (hp : φ b = some p) (hl : H[b]? = some (.cells l md)) :
    ∃ c e fr, w.heap[p.blk]? = some (.cells c e fr) ∧ c.size = p.R ∧ p.d + l.length ≤ p.R ∧ LR φ l c p.d ∧ (md = .rw → fr.1 = fr.2 ∨ p.R ≤ fr.1) := by
  obtain ⟨A, O, h1, h2, h3⟩ := hr.blk b p hp
  rw [hl] at h1; cases h1
  cases h3 with
  | cells _ _ c e fr k1 k2 k3 k4 => exact ⟨c, e, fr, h2, k1, k2, k3, k4⟩

theorem cell_of {B o : Nat} {c : Array Value} {e : TypeId} {fr : Nat × Nat} (h : w.heap[B]? = some (.cells c e fr)) : w.cell? ⟨B, o, none⟩ = c[o]? := by
  simp [World.cell?, h]
theorem frozen_of {B o R : Nat} {c : Array Value} {e : TypeId} {fr : Nat × Nat} (h : w.heap[B]? = some (.cells c e fr)) (hf : fr.1 = fr.2 ∨ R ≤ fr.1) (ho : o < R) : w.frozen? ⟨B, o, none⟩ = false := by
  simp only [World.frozen?, h]
  cases h1 : decide (fr.1 ≤ o) <;> cases h2 : decide (o < fr.2) <;> simp_all
  all_goals omega
theorem addr_add (B o n : Nat) : (⟨B, o, none⟩ : Addr).add n = ⟨B, o + n, none⟩ := by
  unfold Addr.add
  split <;> simp_all

/-- Some cells in a row. -/
theorem Rel.cellsAt (hr : Rel φ H w.heap) {b o n : Nat} {p : PL} {l : List AV} {md : Md} (hp : φ b = some p) (hl : H[b]? = some (.cells l md)) (hn : o + n ≤ l.length) :
    ∃ cs : List Value, cs.length = n ∧ (∀ j v, cs[j]? = some v → w.cell? ((⟨p.blk, p.d + o, none⟩ : Addr).add j) = some v) ∧ ER φ ((l.drop o).take n) cs.toArray := by
  obtain ⟨c, e, fr, h1, h2, h3, h4, _⟩ := hr.row hp hl
  refine ⟨(c.toList.drop (p.d + o)).take n, by simp; omega, fun j v hj => ?_, by simp; omega, fun i a v g1 g2 => ?_⟩
  · rw [addr_add, cell_of h1]
    have hjn : j < n := by
      have := (List.getElem?_eq_some_iff.1 hj).1
      simp at this; omega
    rw [List.getElem?_take_of_lt hjn, List.getElem?_drop, Array.getElem?_toList] at hj
    exact hj
  · have hin : i < n := by
      have := (List.getElem?_eq_some_iff.1 g1).1
      simp at this; omega
    rw [List.getElem?_take_of_lt hin, List.getElem?_drop] at g1
    obtain ⟨v', k1, k2⟩ := h4 _ _ g1
    rw [List.getElem?_toArray, List.getElem?_take_of_lt hin, List.getElem?_drop, Array.getElem?_toList, Nat.add_assoc, k1] at g2
    cases g2; exact k2

theorem run_sizeOf' {t : Nat} {ti : TI} {i : TypeInfo} {d : TypeDesc} {z : Value} (h : TyOk P t ti i d z) (w : World) : (sizeOf t).run P w = .ok ti.sz w := by
  simp [sizeOf, typeInfo, h.hi, h.sz]
theorem run_isAgg' {t : Nat} {ti : TI} {i : TypeInfo} {d : TypeDesc} {z : Value} (h : TyOk P t ti i d z) (w : World) : (isAgg t).run P w = .ok ti.td.isAgg w := by
  have htd := h.td
  simp only [isAgg, Sem.run_bind, run_underlying h.hd, Result.andThen_ok]
  cases d <;> simp only [tdOf] at htd <;> first | (cases htd; rw [← htd]; rfl) | (cases htd; done) | (rw [← Option.some.inj htd]; rfl) | (split at htd <;> first | (rw [← Option.some.inj htd]; rfl) | cases htd)

/-- load -/
theorem sound_load (hg : TyAgree P ap) (hr : Rel φ H w.heap) {t : Nat} {p v : AV} {x : Value} (hx : VR φ p x) (h : aload ap H t p = some v) : ∃ v', (Instr.loadAt t x).run P w = .ok v' w ∧ VR φ v v' := by
  unfold aload at h
  split at h
  · rename_i b o
    obtain ⟨ti, e1, h⟩ := Option.bind_eq_some_iff.1 h
    obtain ⟨l, e2, h⟩ := Option.bind_eq_some_iff.1 h
    obtain ⟨i, d, z, ht⟩ := hg.get e1
    obtain ⟨md, e3, _⟩ := rowOf_some e2
    cases hx with
    | ptr _ _ q hq =>
      simp only [Instr.loadAt, Instr.sureAddr, loadVar, Sem.run_bind, Sem.run_pure, Result.andThen_ok, run_isAgg' ht]
      unfold part at h
      cases hagg : ti.td.isAgg
      · rw [hagg] at h
        simp only [Bool.false_eq_true, if_false] at h ⊢
        obtain ⟨c, e, fr, g1, g2, g3, g4, _⟩ := hr.row hq e3
        obtain ⟨v', k1, k2⟩ := g4 _ _ h
        refine ⟨v', ?_, k2⟩
        have : w.cell? ⟨q.blk, q.d + o, none⟩ = some v' := by rw [cell_of g1]; exact k1
        simp [run_load, this]
      · rw [hagg] at h
        simp only [if_true] at h ⊢
        split at h
        · rename_i hlen
          cases h
          obtain ⟨cs, k1, k2, k3⟩ := hr.cellsAt hq e3 hlen
          refine ⟨.agg cs.toArray, ?_, .agg _ _ k3.1 k3.2⟩
          simp only [run_sizeOf' ht, Result.andThen_ok, Sem.run_bind]
          rw [← k1, run_loadCells_list w _ cs k2]
          simp
        · cases h
  · cases h

/-! ### stores -/
def setA : Array Value → Nat → List Value → Array Value
  | c, _, [] => c
  | c, o, v :: r => setA (c.setIfInBounds o v) (o + 1) r
theorem setA_size : ∀ (vs : List Value) (c : Array Value) (o : Nat), (setA c o vs).size = c.size
  | [], _, _ => rfl
  | v :: r, c, o => by simp [setA, setA_size r]
theorem setA_out : ∀ (vs : List Value) (c : Array Value) (o k : Nat), k < o ∨ o + vs.length ≤ k → (setA c o vs)[k]? = c[k]?
  | [], _, _, _, _ => rfl
  | v :: r, c, o, k, h => by
    simp only [List.length_cons] at h
    rw [setA, setA_out r _ _ _ (by omega), Array.getElem?_setIfInBounds_ne (by omega)]
theorem setA_in : ∀ (vs : List Value) (c : Array Value) (o k : Nat), k < vs.length → o + vs.length ≤ c.size → (setA c o vs)[o + k]? = vs[k]?
  | v :: r, c, o, 0, _, h => by
    simp only [List.length_cons] at h
    show (setA c o (v :: r))[o]? = some v
    rw [setA, setA_out r _ _ _ (by omega), Array.getElem?_setIfInBounds_self, if_pos (by omega)]
  | v :: r, c, o, k + 1, hk, h => by
    simp only [List.length_cons] at h hk
    rw [setA, show o + (k + 1) = o + 1 + k by omega, setA_in r _ _ _ (by omega) (by simp; omega)]
    rfl
theorem setCells_heap (B : Nat) : ∀ (vs : List Value) (o : Nat) (w : World) (c : Array Value) (e : TypeId) (fr : Nat × Nat), w.heap[B]? = some (.cells c e fr) →
    (w.setCells B o vs).heap = w.heap.setIfInBounds B (.cells (setA c o vs) e fr)
  | [], o, w, c, e, fr, h => by
    simp only [World.setCells, setA]
    apply Array.ext_getElem?
    intro i
    by_cases hi : B = i
    · subst hi; rw [h, Array.getElem?_setIfInBounds_self, if_pos (Array.getElem?_eq_some_iff.1 h).1]
    · rw [Array.getElem?_setIfInBounds_ne hi]
  | v :: r, o, w, c, e, fr, h => by
    have hlt := (Array.getElem?_eq_some_iff.1 h).1
    have h1 : (w.setCell ⟨B, o, none⟩ v).heap = w.heap.setIfInBounds B (.cells (c.setIfInBounds o v) e fr) := by
      apply Array.ext_getElem?
      intro i
      simp only [World.setCell, Array.getElem?_modify]
      by_cases hi : B = i
      · subst hi; rw [Array.getElem?_setIfInBounds_self, if_pos rfl, if_pos hlt, h]; rfl
      · rw [Array.getElem?_setIfInBounds_ne hi, if_neg hi]
    rw [World.setCells, setCells_heap B r (o + 1) _ (c.setIfInBounds o v) e fr (by rw [h1]; simp [hlt]), h1, setA]
    simp
theorem vr_one {a : AV} {v : Value} (h : VR φ a v) (h1 : a.one = true) : v.oneCell' = true := by
  cases h <;> simp [AV.one] at h1 <;> rfl
theorem er_one {l : List AV} {vs : List Value} (h : ER φ l vs.toArray) (h1 : l.all AV.one = true) : ∀ v ∈ vs, v.oneCell' = true := by
  intro v hv
  obtain ⟨i, hi⟩ := List.getElem?_of_mem hv
  have hl : i < l.length := by
    have := (List.getElem?_eq_some_iff.1 hi).1
    have := h.1; simp at this; omega
  have := h.2 i l[i] v (by simp [hl]) (by simpa using hi)
  exact vr_one this (List.all_eq_true.1 h1 _ (List.getElem_mem hl))
theorem lr_splice {l xs : List AV} {c : Array Value} {d o : Nat} {vs : List Value} (h : LR φ l c d) (hx : ER φ xs vs.toArray) (ho : o + xs.length ≤ l.length) (hc : d + l.length ≤ c.size) :
    LR φ (splice l o xs) (setA c (d + o) vs) d := by
  have hlen : xs.length = vs.length := by have := hx.1; simpa using this
  intro i a hi
  unfold splice at hi
  rw [List.append_assoc] at hi
  by_cases h1 : i < o
  · rw [List.getElem?_append_left (by simp; omega), List.getElem?_take_of_lt h1] at hi
    rw [setA_out _ _ _ _ (by omega)]
    exact h i a hi
  · rw [List.getElem?_append_right (by simp; omega)] at hi
    simp only [List.length_take] at hi
    rw [show i - min o l.length = i - o by omega] at hi
    by_cases h2 : i - o < xs.length
    · rw [List.getElem?_append_left h2] at hi
      refine ⟨vs[i - o], ?_, hx.2 _ _ _ hi (by simp [hlen ▸ h2])⟩
      have := setA_in vs c (d + o) (i - o) (by omega) (by omega)
      rw [show d + o + (i - o) = d + i by omega] at this
      rw [this]; simp [hlen ▸ h2]
    · rw [List.getElem?_append_right (by omega), List.getElem?_drop] at hi
      rw [show o + xs.length + (i - o - xs.length) = i by omega] at hi
      rw [setA_out _ _ _ _ (by omega)]
      exact h i a hi
theorem splice_len {l xs : List AV} {o : Nat} (ho : o + xs.length ≤ l.length) : (splice l o xs).length = l.length := by
  simp [splice]; omega

theorem str_setCells : ∀ (vs : List Value) (b o : Nat) (w : World), Str w (w.setCells b o vs)
  | [], b, o, w => .refl w
  | v :: r, b, o, w => (Str.trans ⟨rfl, rfl, rfl⟩ (str_setCells r b (o + 1) (w.setCell ⟨b, o, none⟩ v)))
/-- Some cells of an own block are written. -/
theorem Rel.store (hr : Rel φ H w.heap) {b o : Nat} {p : PL} {l xs : List AV} {vs : List Value} (hp : φ b = some p) (hl : H[b]? = some (.cells l .rw)) (hx : ER φ xs vs.toArray) (ho : o + xs.length ≤ l.length)
    (h1 : xs.all AV.one = true) : ∃ w', (storeCells ⟨p.blk, p.d + o, none⟩ vs).run P w = .ok () w' ∧ SimW φ H w φ (H.set b (.cells (splice l o xs) .rw)) w' := by
  obtain ⟨c, e, fr, g1, g2, g3, g4, g5⟩ := hr.row hp hl
  have hlen : xs.length = vs.length := by have := hx.1; simpa using this
  refine ⟨w.setCells p.blk (p.d + o) vs, ?_, ?_⟩
  · have := run_storeCells_cells (P := P) p.blk (p.d + o) vs 0 w (fun j hj => by
        rw [cell_of g1]
        have : p.d + o + 0 + j < c.size := by omega
        rw [Array.getElem?_eq_getElem this]; rfl) (fun j hj => frozen_of g1 (g5 rfl) (by omega)) (er_one hx h1)
    exact this
  · refine ⟨?_, str_setCells _ _ _ _⟩
    rw [setCells_heap _ _ _ _ _ _ _ g1]
    refine Sim.write hr hp hl rfl g1 (fun c1 e1 fr1 q => by cases q; exact ⟨_, _, _, rfl, setA_size _ _ _⟩) ?_ (.inl rfl)
    exact .cells _ _ _ _ _ ((setA_size _ _ _).trans g2) (by rw [splice_len ho]; exact g3) (lr_splice g4 hx ho (by omega)) g5

theorem sound_store (hg : TyAgree P ap) (hr : Rel φ H w.heap) {t lo : Nat} {p v : AV} {x y : Value} (hx : VR φ p x) (hy : VR φ v y) {H' : AH} (h : astore ap lo H t p v = some H') :
    ∃ w', (Instr.storeAt t x y).run P w = .ok () w' ∧ SimW φ H w φ H' w' := by
  unfold astore at h
  split at h
  · rename_i b o
    obtain ⟨ti, e1, h⟩ := Option.bind_eq_some_iff.1 h
    obtain ⟨cs, e2, h⟩ := Option.bind_eq_some_iff.1 h
    obtain ⟨l, e3, h⟩ := Option.bind_eq_some_iff.1 h
    obtain ⟨i, d, z, ht⟩ := hg.get e1
    split at h
    · rename_i hc
      cases h
      cases hx with
      | ptr _ _ q hq =>
        have hcs := vr_cells hy e2
        obtain ⟨w', k1, k2⟩ := hr.store (P := P) hq (rowRw_some e3).1 (vs := y.cells.toList) (by simpa using hcs) hc.2.1 hc.2.2
        refine ⟨w', ?_, k2⟩
        have hsz : y.cells.size = ti.sz := by rw [← hcs.1]; exact hc.1
        simp [Instr.storeAt, Instr.sureAddr, storeVar, run_sizeOf' ht, hsz, k1]
    · cases h
  · cases h

/-! ### what is made -/
theorem alloc_cells {hp : Array Obj} (hr : Rel φ H hp) {l : List AV} {c : Array Value} {e : TypeId} {fr : Nat × Nat} {R : Nat} (hR : c.size = R) (hl : l.length ≤ R) (h : LR φ l c 0) (hf : fr.1 = fr.2 ∨ R ≤ fr.1) :
    Sim φ H hp (upd φ H.length ⟨hp.size, 0, R⟩) (H ++ [.cells l .rw]) (hp.push (.cells c e fr)) :=
  Sim.alloc hr (.cells l .rw c e fr hR (by simpa using hl) (h.mono (hr.upd_le _)) (fun _ => hf))
theorem upd_self (φ : Inj) (b : Nat) (p : PL) : upd φ b p b = some p := by simp [upd]
theorem vr_newptr {hp : Array Obj} (b : Nat) (p : PL) (h0 : p.d = 0) : VR (upd φ b p) (.ptr (some (b, 0))) (.pointer (some ⟨p.blk, 0, none⟩)) := by
  have := VR.ptr (φ := upd φ b p) b 0 p (upd_self _ _ _)
  rwa [h0] at this

theorem sound_alloc (hg : TyAgree P ap) (hr : Rel φ H w.heap) {t : Nat} {ti : TI} (h : ap.ty t = some ti) :
    ∃ v' w' φ', (Instr.alloc t true (.tuple #[])).run P w = .ok v' w' ∧ SimW φ H w φ' (H ++ [.cells ti.zero .rw]) w' ∧ VR φ' (.ptr (some (H.length, 0))) v' := by
  obtain ⟨i, d, z, ht⟩ := hg.get h
  have hz := er_ofS φ z.cells
  refine ⟨.pointer (some ⟨w.heap.size, 0, none⟩), w.alloc (.cells z.cells t), upd φ H.length ⟨w.heap.size, 0, z.cells.size⟩, ?_, ?_, vr_newptr (hp := w.heap) H.length ⟨w.heap.size, 0, z.cells.size⟩ rfl⟩
  · simp [Instr.alloc, zeroValue, typeInfo, ht.hi, ht.hz, newVar, newRow]
  · rw [ht.zero]
    exact ⟨alloc_cells hr rfl (by simp) (hz.lr) (.inl rfl), ⟨rfl, rfl, rfl⟩⟩
theorem sound_box (hr : Rel φ H w.heap) {t : Nat} {v : AV} {x : Value} (hx : VR φ v x) {cs : List AV} (h : v.cells = some cs) :
    ∃ v' w' φ', (Instr.box t x).run P w = .ok v' w' ∧ SimW φ H w φ' (H ++ [.cells cs .rw]) w' ∧ VR φ' (.ptr (some (H.length, 0))) v' := by
  have hcs := vr_cells hx h
  refine ⟨.pointer (some ⟨w.heap.size, 0, none⟩), w.alloc (.cells x.cells t), upd φ H.length ⟨w.heap.size, 0, x.cells.size⟩, ?_, ?_, vr_newptr (hp := w.heap) H.length ⟨w.heap.size, 0, x.cells.size⟩ rfl⟩
  · simp [Instr.box, newVar, newRow]
  · exact ⟨alloc_cells hr rfl (by have := hcs.1; omega) hcs.lr (.inl rfl), ⟨rfl, rfl, rfl⟩⟩
end
end Go.Ab
