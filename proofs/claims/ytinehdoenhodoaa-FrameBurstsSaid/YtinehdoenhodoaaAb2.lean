import Derived.Test.YtinehdoenhodoaaAb1
/-! How the abstract reading stands to the model's memory. -/
set_option linter.unusedVariables false
set_option linter.unusedSimpArgs false
namespace Go.Ab

/-- Where a block lies: the model's block, from which cell on, how many cells that has. -/
structure PL where
  blk : Nat
  d : Nat
  R : Nat
abbrev Inj := Nat → Option PL

inductive VR (φ : Inj) : AV → Value → Prop
  | undef (v : Value) : VR φ .undef v
  | bool (b : Bool) : VR φ (.bool b) (.bool b)
  | int (k : IntKind) (n : Int) : VR φ (.int k n) (.int k n)
  | str (s : ByteArray) : VR φ (.str s) (.string s)
  | ptrN : VR φ (.ptr none) (.pointer none)
  | ptr (b o : Nat) (p : PL) (h : φ b = some p) : VR φ (.ptr (some (b, o))) (.pointer (some ⟨p.blk, p.d + o, none⟩))
  | sliceN (c : Option Nat) (sz : Nat) : VR φ (.slice none 0 c sz) (.slice none 0 0)
  | slice (b o len : Nat) (cap : Option Nat) (sz : Nat) (p : PL) (a' : Addr) (cap' : Nat) (h : φ b = some p) (ha : a' = ⟨p.blk, p.d + o, none⟩ ∨ cap' = 0) (hl : len ≤ cap')
      (hR : p.d + o + cap' * sz ≤ p.R) (hc : (∃ c, cap = some c ∧ cap' = c) ∨ (cap = none ∧ p.d + o + cap' * sz = p.R)) : VR φ (.slice (some (b, o)) len cap sz) (.slice (some a') len cap')
  | func (f : FuncId) (l m : List AV) (l' m' : Array Value) (h1 : l.length = l'.size) (h2 : ∀ (i : Nat) (a : AV) (v : Value), l[i]? = some a → l'[i]? = some v → VR φ a v)
      (h3 : m.length = m'.size) (h4 : ∀ (i : Nat) (a : AV) (v : Value), m[i]? = some a → m'[i]? = some v → VR φ a v) : VR φ (.func f l m) (.func (.func f) l' m')
  | yield (l : Nat) (p : PL) (h : φ l = some p) : VR φ (.yield l) (.func (.yield p.blk) #[] #[])
  | nilFunc : VR φ .nilFunc .nilFunc
  | nilIface : VR φ .nilIface .nilIface
  | iface (t : TypeId) (v : AV) (v' : Value) (h : VR φ v v') : VR φ (.iface t v) (.iface t v')
  | agg (l : List AV) (l' : Array Value) (h1 : l.length = l'.size) (h2 : ∀ (i : Nat) (a : AV) (v : Value), l[i]? = some a → l'[i]? = some v → VR φ a v) : VR φ (.agg l) (.agg l')
  | tuple (l : List AV) (l' : Array Value) (h1 : l.length = l'.size) (h2 : ∀ (i : Nat) (a : AV) (v : Value), l[i]? = some a → l'[i]? = some v → VR φ a v) : VR φ (.tuple l) (.tuple l')

def Inj.le (φ φ' : Inj) : Prop := ∀ b p, φ b = some p → φ' b = some p
theorem Inj.le_refl (φ : Inj) : φ.le φ := fun _ _ h => h
theorem Inj.le_trans {a b c : Inj} (h : a.le b) (g : b.le c) : a.le c := fun _ _ e => g _ _ (h _ _ e)

theorem VR.mono {φ φ' : Inj} (hl : φ.le φ') {a : AV} {v : Value} (h : VR φ a v) : VR φ' a v := by
  induction h with
  | undef v => exact .undef v
  | bool b => exact .bool b
  | int k n => exact .int k n
  | str s => exact .str s
  | ptrN => exact .ptrN
  | ptr b o p h => exact .ptr b o p (hl _ _ h)
  | sliceN c sz => exact .sliceN c sz
  | slice b o len cap sz p a' cap' h ha hlen hR hc => exact .slice b o len cap sz p a' cap' (hl _ _ h) ha hlen hR hc
  | func f l m l' m' h1 h2 h3 h4 i2 i4 => exact .func f l m l' m' h1 i2 h3 i4
  | yield l p h => exact .yield l p (hl _ _ h)
  | nilFunc => exact .nilFunc
  | nilIface => exact .nilIface
  | iface t v v' h ih => exact .iface t v v' ih
  | agg l l' h1 h2 ih => exact .agg l l' h1 ih
  | tuple l l' h1 h2 ih => exact .tuple l l' h1 ih

/-- Lists of values. -/
def ER (φ : Inj) (l : List AV) (c : Array Value) : Prop := l.length = c.size ∧ ∀ (i : Nat) (a : AV) (v : Value), l[i]? = some a → c[i]? = some v → VR φ a v
theorem ER.mono {φ φ' : Inj} (hl : φ.le φ') {l : List AV} {c : Array Value} (h : ER φ l c) : ER φ' l c := ⟨h.1, fun i a v h1 h2 => (h.2 i a v h1 h2).mono hl⟩
def LR (φ : Inj) (l : List AV) (c : Array Value) (d : Nat) : Prop := ∀ (i : Nat) (a : AV), l[i]? = some a → ∃ v, c[d + i]? = some v ∧ VR φ a v
theorem LR.mono {φ φ' : Inj} (hl : φ.le φ') {l : List AV} {c : Array Value} {d : Nat} (h : LR φ l c d) : LR φ' l c d := fun i a e => let ⟨v, h1, h2⟩ := h i a e; ⟨v, h1, h2.mono hl⟩
theorem ER.lr {φ : Inj} {l : List AV} {c : Array Value} (h : ER φ l c) : LR φ l c 0 := fun i a e => by
  have hi : i < c.size := by
    have := (List.getElem?_eq_some_iff.1 e).1
    have := h.1; omega
  exact ⟨c[i], by simp [hi], h.2 i a _ e (by simp [hi])⟩

inductive BR (φ : Inj) (p : PL) : AB → Obj → Prop
  | cells (l : List AV) (md : Md) (c : Array Value) (e : TypeId) (fr : Nat × Nat) (h1 : c.size = p.R) (h2 : p.d + l.length ≤ p.R) (h3 : LR φ l c p.d)
      (h4 : md = .rw → fr.1 = fr.2 ∨ p.R ≤ fr.1) : BR φ p (.cells l md) (.cells c e fr)
  | loop (st : LoopState) (pe : Option Code) (env : List AV) (ps : Array Tmp) (as bd : AC) (d : Nat) (r : Loop) (p' : PL) (h1 : r.state = st) (h2 : r.pending = pe) (h3 : ER φ env r.tmps)
      (h4 : r.params = ps) (h5 : erase r.assign = as.strip) (h6 : erase r.body = bd.strip) (h7 : φ d = some p') (h8 : r.defers = p'.blk) : BR φ p (.loop st pe env ps as bd d) (.loop r)
  | deferred (t : Bool) : BR φ p (.deferred t) (.deferred (if t then none else some []))
theorem BR.mono {φ φ' : Inj} (hl : φ.le φ') {p : PL} {A : AB} {O : Obj} (h : BR φ p A O) : BR φ' p A O := by
  cases h with
  | cells l md c e fr h1 h2 h3 h4 => exact .cells l md c e fr h1 h2 (h3.mono hl) h4
  | loop st pe env ps as bd d r p' h1 h2 h3 h4 h5 h6 h7 h8 => exact .loop st pe env ps as bd d r p' h1 h2 (h3.mono hl) h4 h5 h6 (hl _ _ h7) h8
  | deferred t => exact .deferred t

def isDead0 : AB → Prop
  | .cells [] .dead => True
  | _ => False

structure Rel (φ : Inj) (H : AH) (hp : Array Obj) : Prop where
  blk : ∀ b p, φ b = some p → ∃ A O, H[b]? = some A ∧ hp[p.blk]? = some O ∧ BR φ p A O
  excl : ∀ b p A b' p' A', φ b = some p → H[b]? = some A → A.own = true → φ b' = some p' → H[b']? = some A' → b' ≠ b → p'.blk = p.blk → isDead0 A'

/-- A step. -/
structure Sim (φ : Inj) (H : AH) (hp : Array Obj) (φ' : Inj) (H' : AH) (hp' : Array Obj) : Prop where
  ext : φ.le φ'
  new : ∀ b p, φ' b = some p → φ b = some p ∨ H.length ≤ b
  rel : Rel φ' H' hp'
  len : H.length ≤ H'.length
  size : hp.size ≤ hp'.size
  frame : ∀ r, r < hp.size → (∀ b p A, φ b = some p → H[b]? = some A → A.own = true → p.blk ≠ r) → hp'[r]? = hp[r]?
  img : ∀ b p A, φ' b = some p → H'[b]? = some A → A.own = true → hp.size ≤ p.blk ∨ ∃ b0 p0 A0, φ b0 = some p0 ∧ H[b0]? = some A0 ∧ A0.own = true ∧ p0.blk = p.blk
  img2 : ∀ b p, φ' b = some p → φ b = some p ∨ hp.size ≤ p.blk ∨ ∃ b0 p0 A0, φ b0 = some p0 ∧ H[b0]? = some A0 ∧ A0.own = true ∧ p0.blk = p.blk

theorem Sim.refl {φ : Inj} {H : AH} {hp : Array Obj} (h : Rel φ H hp) : Sim φ H hp φ H hp :=
  ⟨Inj.le_refl φ, fun _ _ e => .inl e, h, Nat.le_refl _, Nat.le_refl _, fun _ _ _ => rfl, fun b p A h1 h2 h3 => .inr ⟨b, p, A, h1, h2, h3, rfl⟩, fun _ _ e => .inl e⟩

theorem Sim.trans {φ1 φ2 φ3 : Inj} {H1 H2 H3 : AH} {h1 h2 h3 : Array Obj} (a : Sim φ1 H1 h1 φ2 H2 h2) (b : Sim φ2 H2 h2 φ3 H3 h3) : Sim φ1 H1 h1 φ3 H3 h3 where
  ext := Inj.le_trans a.ext b.ext
  new := fun x p e => by
    rcases b.new x p e with h | h
    · exact a.new x p h
    · exact .inr (Nat.le_trans a.len h)
  rel := b.rel
  len := Nat.le_trans a.len b.len
  size := Nat.le_trans a.size b.size
  frame := fun r hr hn => by
    rw [b.frame r (Nat.lt_of_lt_of_le hr a.size) ?_, a.frame r hr hn]
    intro x p A e1 e2 e3 e4
    rcases a.img x p A e1 e2 e3 with h | ⟨b0, p0, A0, i1, i2, i3, i4⟩
    · omega
    · exact hn b0 p0 A0 i1 i2 i3 (i4.trans e4)
  img := fun x p A e1 e2 e3 => by
    rcases b.img x p A e1 e2 e3 with h | ⟨b0, p0, A0, i1, i2, i3, i4⟩
    · exact .inl (Nat.le_trans a.size h)
    · rcases a.img b0 p0 A0 i1 i2 i3 with h | ⟨b1, p1, A1, j1, j2, j3, j4⟩
      · exact .inl (i4 ▸ h)
      · exact .inr ⟨b1, p1, A1, j1, j2, j3, j4.trans i4⟩
  img2 := fun x p e => by
    rcases b.img2 x p e with h | h | ⟨b0, p0, A0, i1, i2, i3, i4⟩
    · exact a.img2 x p h
    · exact .inr (.inl (Nat.le_trans a.size h))
    · rcases a.img b0 p0 A0 i1 i2 i3 with h | ⟨b1, p1, A1, j1, j2, j3, j4⟩
      · exact .inr (.inl (i4 ▸ h))
      · exact .inr (.inr ⟨b1, p1, A1, j1, j2, j3, j4.trans i4⟩)

def upd (φ : Inj) (b : Nat) (p : PL) : Inj := fun x => if x = b then some p else φ x
theorem Rel.lt {φ : Inj} {H : AH} {hp : Array Obj} (h : Rel φ H hp) {b : Nat} {p : PL} (e : φ b = some p) : b < H.length := by
  obtain ⟨A, O, h1, _⟩ := h.blk b p e
  exact (List.getElem?_eq_some_iff.1 h1).1
theorem Rel.lt2 {φ : Inj} {H : AH} {hp : Array Obj} (h : Rel φ H hp) {b : Nat} {p : PL} (e : φ b = some p) : p.blk < hp.size := by
  obtain ⟨A, O, _, h1, _⟩ := h.blk b p e
  exact (Array.getElem?_eq_some_iff.1 h1).1
theorem Rel.upd_le {φ : Inj} {H : AH} {hp : Array Obj} (h : Rel φ H hp) (p : PL) : φ.le (upd φ H.length p) := fun b q e => by
  have := h.lt e
  unfold upd
  rw [if_neg (by omega)]; exact e

/-- A new block. -/
theorem Sim.alloc {φ : Inj} {H : AH} {hp : Array Obj} (h : Rel φ H hp) {A : AB} {O : Obj} {d R : Nat} (hb : BR (upd φ H.length ⟨hp.size, d, R⟩) ⟨hp.size, d, R⟩ A O) :
    Sim φ H hp (upd φ H.length ⟨hp.size, d, R⟩) (H ++ [A]) (hp.push O) where
  ext := h.upd_le _
  new := fun b p e => by
    unfold upd at e
    split at e
    · exact .inr (by omega)
    · exact .inl e
  rel := {
    blk := fun b p e => by
      unfold upd at e
      split at e
      · rename_i hb'
        cases e
        subst hb'
        exact ⟨A, O, by simp, by simp, hb⟩
      · obtain ⟨A1, O1, h1, h2, h3⟩ := h.blk b p e
        have hl := h.lt e
        have hl2 := h.lt2 e
        exact ⟨A1, O1, by rw [List.getElem?_append_left hl]; exact h1, by rw [Array.getElem?_push, if_neg (by omega)]; exact h2, h3.mono (h.upd_le _)⟩
    excl := fun b p A1 b' p' A1' e1 e2 e3 e4 e5 e6 e7 => by
      unfold upd at e1 e4
      split at e1
      · cases e1
        split at e4
        · omega
        · have := h.lt2 e4
          simp only at e7
          omega
      · have hl := h.lt e1
        have hl2 := h.lt2 e1
        split at e4
        · cases e4
          simp only at e7
          omega
        · have hl' := h.lt e4
          rw [List.getElem?_append_left hl] at e2
          rw [List.getElem?_append_left hl'] at e5
          exact h.excl b p A1 b' p' A1' e1 e2 e3 e4 e5 e6 e7 }
  len := by simp
  size := by simp
  frame := fun r hr _ => by rw [Array.getElem?_push, if_neg (by omega)]
  img := fun b p A1 e1 e2 e3 => by
    unfold upd at e1
    split at e1
    · cases e1; exact .inl (Nat.le_refl _)
    · have hl := h.lt e1
      rw [List.getElem?_append_left hl] at e2
      exact .inr ⟨b, p, A1, e1, e2, e3, rfl⟩
  img2 := fun b p e => by
    unfold upd at e
    split at e
    · cases e; exact .inr (.inl (Nat.le_refl _))
    · exact .inl e

/-- A block written anew. -/
theorem Sim.write {φ : Inj} {H : AH} {hp : Array Obj} (h : Rel φ H hp) {b : Nat} {p : PL} {A A' : AB} {O O' : Obj} (e1 : φ b = some p) (e2 : H[b]? = some A) (e3 : A.own = true)
    (e4 : hp[p.blk]? = some O) (hk : ∀ c e fr, O = .cells c e fr → ∃ c' e' fr', O' = .cells c' e' fr' ∧ c'.size = c.size) (hb : BR φ p A' O') (hown : A'.own = true ∨ isDead0 A') :
    Sim φ H hp φ (H.set b A') (hp.setIfInBounds p.blk O') := by
  have hlt := h.lt e1
  have hlt2 := h.lt2 e1
  have old : ∀ b' A1, b' ≠ b → (H.set b A')[b']? = some A1 → H[b']? = some A1 := fun b' A1 hn e => by rwa [List.getElem?_set_ne (by omega)] at e
  refine ⟨Inj.le_refl φ, fun _ _ e => .inl e, ⟨fun b' p' e => ?_, fun b1 p1 A1 b2 p2 A2 f1 f2 f3 f4 f5 f6 f7 => ?_⟩, by simp, by simp, fun r hr hn => ?_, fun b1 p1 A1 f1 f2 f3 => ?_, fun _ _ e => .inl e⟩
  · by_cases hbb : b' = b
    · subst hbb
      rw [e1] at e; cases e
      exact ⟨A', O', by simp [hlt], by simp [hlt2], hb⟩
    · obtain ⟨A1, O1, h1, h2, h3⟩ := h.blk b' p' e
      by_cases hs : p'.blk = p.blk
      · have hd := h.excl b p A b' p' A1 e1 e2 e3 e h1 hbb hs
        refine ⟨A1, O', by rw [List.getElem?_set_ne (by omega)]; exact h1, by rw [hs]; simp [hlt2], ?_⟩
        rw [hs, e4] at h2
        cases h2
        cases h3 with
        | cells l md c e' fr g1 g2 g3 g4 =>
          obtain ⟨c', e'', fr', rfl, hc⟩ := hk c e' fr rfl
          cases l with
          | nil =>
            cases md with
            | dead => exact .cells [] .dead c' e'' fr' (hc.trans g1) g2 (fun i a hi => by simp at hi) (fun hm => by cases hm)
            | rw => exact hd.elim
            | ro => exact hd.elim
          | cons => exact hd.elim
        | loop => exact hd.elim
        | deferred => exact hd.elim
      · exact ⟨A1, O1, by rw [List.getElem?_set_ne (by omega)]; exact h1, by rw [Array.getElem?_setIfInBounds_ne (by omega)]; exact h2, h3⟩
  · by_cases hb2 : b2 = b
    · subst hb2
      have hne : b1 ≠ b2 := fun x => f6 x.symm
      have f2' := old b1 A1 hne f2
      rw [e1] at f4; cases f4
      have := h.excl b2 p A b1 p1 A1 e1 e2 e3 f1 f2' hne f7.symm
      exfalso
      cases A1 with
      | cells l md => cases l <;> cases md <;> simp_all [isDead0, AB.own]
      | loop => exact this
      | deferred => exact this
    · have f5' := old b2 A2 hb2 f5
      by_cases hb1 : b1 = b
      · subst hb1
        rw [e1] at f1; cases f1
        exact h.excl b1 p A b2 p2 A2 e1 e2 e3 f4 f5' hb2 f7
      · exact h.excl b1 p1 A1 b2 p2 A2 f1 (old b1 A1 hb1 f2) f3 f4 f5' f6 f7
  · rw [Array.getElem?_setIfInBounds_ne (hn b p A e1 e2 e3)]
  · by_cases hb1 : b1 = b
    · subst hb1
      rw [e1] at f1; cases f1
      exact .inr ⟨b1, p, A, e1, e2, e3, rfl⟩
    · exact .inr ⟨b1, p1, A1, f1, old b1 A1 hb1 f2, f3, rfl⟩

/-- A block that lives on under a new name (append in place). -/
theorem Sim.rename {φ : Inj} {H : AH} {hp : Array Obj} (h : Rel φ H hp) {b : Nat} {p : PL} {l : List AV} {c : Array Value} {e : TypeId} {fr : Nat × Nat} (e1 : φ b = some p) (e2 : H[b]? = some (.cells l .rw))
    (e4 : hp[p.blk]? = some (.cells c e fr)) {o : Nat} {l' : List AV} {c' : Array Value} (hs : c'.size = c.size) (h2 : p.d + o + l'.length ≤ p.R) (h3 : LR φ l' c' (p.d + o)) :
    Sim φ H hp (upd φ H.length ⟨p.blk, p.d + o, p.R⟩) (H.set b (.cells [] .dead) ++ [.cells l' .rw]) (hp.setIfInBounds p.blk (.cells c' e fr)) := by
  have hlt := h.lt e1
  have hlt2 := h.lt2 e1
  obtain ⟨A0, O0, g1, g2, g3⟩ := h.blk b p e1
  rw [e2] at g1; cases g1
  rw [e4] at g2; cases g2
  have hR : c.size = p.R ∧ (fr.1 = fr.2 ∨ p.R ≤ fr.1) := by cases g3 with | cells _ _ _ _ _ k1 k2 k3 k4 => exact ⟨k1, k4 rfl⟩
  have hd : p.d + 0 ≤ p.R := by omega
  have hw := Sim.write h e1 e2 (A' := .cells [] .dead) rfl e4 (O' := .cells c' e fr) (fun c1 e1 fr1 q => by cases q; exact ⟨c', _, _, rfl, hs⟩)
    (.cells [] .dead c' e fr (hs.trans hR.1) hd (fun i a hi => by simp at hi) (fun q => by cases q)) (.inr trivial)
  have hle : φ.le (upd φ H.length ⟨p.blk, p.d + o, p.R⟩) := h.upd_le _
  have hlen : (H.set b (.cells [] .dead)).length = H.length := by simp
  refine ⟨hle, fun x q e => ?_, ⟨fun x q e' => ?_, fun x q A1 y q' A2 f1 f2 f3 f4 f5 f6 f7 => ?_⟩, by simp, by simp, hw.frame, fun x q A1 f1 f2 f3 => ?_, fun x q e' => ?_⟩
  · unfold upd at e
    split at e
    · exact .inr (by omega)
    · exact .inl e
  · unfold upd at e'
    split at e'
    · rename_i hx
      cases e'
      subst hx
      refine ⟨_, _, ?_, ?_, .cells l' .rw c' e fr (hs.trans hR.1) h2 (h3.mono hle) (fun _ => hR.2)⟩
      · rw [List.getElem?_append_right (by omega), hlen]; simp
      · simp [hlt2]
    · obtain ⟨A1, O1, k1, k2, k3⟩ := hw.rel.blk x q e'
      have := h.lt e'
      exact ⟨A1, O1, by rw [List.getElem?_append_left (by omega)]; exact k1, k2, k3.mono hle⟩
  · have ho : ∀ x q A, φ x = some q → (H.set b (.cells [] .dead))[x]? = some A → q.blk = p.blk → isDead0 A := fun x q A i1 i2 i3 => by
      by_cases hxb : x = b
      · subst hxb
        rw [List.getElem?_set_self hlt] at i2
        cases i2; trivial
      · rw [List.getElem?_set_ne (by omega)] at i2
        exact h.excl b p _ x q A e1 e2 rfl i1 i2 hxb i3
    unfold upd at f1 f4
    split at f1
    · rename_i hx
      cases f1
      split at f4
      · omega
      · have := h.lt f4
        rw [List.getElem?_append_left (by omega)] at f5
        exact ho y q' A2 f4 f5 f7
    · have hx := h.lt f1
      rw [List.getElem?_append_left (by omega)] at f2
      split at f4
      · cases f4
        have := ho x q A1 f1 f2 f7.symm
        exfalso
        cases A1 with
        | cells l md => cases l <;> cases md <;> simp_all [isDead0, AB.own]
        | loop => exact this
        | deferred => exact this
      · have hy := h.lt f4
        rw [List.getElem?_append_left (by omega)] at f5
        exact hw.rel.excl x q A1 y q' A2 f1 f2 f3 f4 f5 f6 f7
  · unfold upd at f1
    split at f1
    · cases f1
      exact .inr ⟨b, p, _, e1, e2, rfl, rfl⟩
    · have hx := h.lt f1
      rw [List.getElem?_append_left (by omega)] at f2
      exact hw.img x q A1 f1 f2 f3
  · unfold upd at e'
    split at e'
    · cases e'; exact .inr (.inr ⟨b, p, _, e1, e2, rfl, rfl⟩)
    · exact .inl e'

/-- What lies outside the heap stays. -/
def Str (w w' : World) : Prop := w'.os = w.os ∧ w'.tape = w.tape ∧ w'.output = w.output
theorem Str.refl (w : World) : Str w w := ⟨rfl, rfl, rfl⟩
theorem Str.trans {a b c : World} (h : Str a b) (k : Str b c) : Str a c := ⟨k.1.trans h.1, k.2.1.trans h.2.1, k.2.2.trans h.2.2⟩
/-- A step of the world. -/
structure SimW (φ : Inj) (H : AH) (w : World) (φ' : Inj) (H' : AH) (w' : World) : Prop extends Sim φ H w.heap φ' H' w'.heap where
  str : Str w w'
theorem SimW.refl {φ : Inj} {H : AH} {w : World} (h : Rel φ H w.heap) : SimW φ H w φ H w := ⟨.refl h, .refl w⟩
theorem SimW.trans {φ1 φ2 φ3 : Inj} {H1 H2 H3 : AH} {h1 h2 h3 : World} (a : SimW φ1 H1 h1 φ2 H2 h2) (b : SimW φ2 H2 h2 φ3 H3 h3) : SimW φ1 H1 h1 φ3 H3 h3 := ⟨a.toSim.trans b.toSim, a.str.trans b.str⟩
end Go.Ab
