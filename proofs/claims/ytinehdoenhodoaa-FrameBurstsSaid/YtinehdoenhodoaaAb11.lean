import Derived.Test.YtinehdoenhodoaaAb10
import Derived.RangeFuncNested
set_option linter.unusedVariables false
set_option linter.unusedSimpArgs false
namespace Go.Ab

def exOf : Ex → Exit
  | .normal => .normal
  | .exit id => .exit id
  | .ret => .ret
def MR (φ : Inj) : List Nat → List Deferred → Prop
  | [], [] => True
  | d :: r, x :: xs => (∃ p, φ d = some p ∧ x = { target := .collected p.blk, args := #[] }) ∧ MR φ r xs
  | _, _ => False
theorem MR.mono {φ φ' : Inj} (hl : φ.le φ') : ∀ {l : List Nat} {d : List Deferred}, MR φ l d → MR φ' l d
  | [], [], _ => trivial
  | _ :: _, _ :: _, ⟨⟨p, h1, h2⟩, h⟩ => ⟨⟨p, hl _ _ h1, h2⟩, h.mono hl⟩
  | [], _ :: _, h => h.elim
  | _ :: _, [], h => h.elim
def RdR (φ : Inj) : Option Nat → Option Nat → Prop
  | none, none => True
  | some l, some r => ∃ p, φ l = some p ∧ p.blk = r
  | _, _ => False
theorem RdR.mono {φ φ' : Inj} (hl : φ.le φ') : ∀ {l r : Option Nat}, RdR φ l r → RdR φ' l r
  | none, none, _ => trivial
  | some l, some r, ⟨p, h1, h2⟩ => ⟨p, hl _ _ h1, h2⟩
  | none, some _, h => h.elim
  | some _, none, h => h.elim

/-- What is behind some code. -/
def QA (φ : Inj) (H : AH) (w0 : World) (x : Ex) (s' : St) : Exit → Act → World → Prop :=
  fun e a' w' => e = exOf x ∧ ∃ φ', SimW φ H w0 φ' s'.H w' ∧ ER φ' s'.env a'.tmps ∧ MR φ' s'.marks a'.defers
theorem QA.pre {φ φ1 : Inj} {H H1 : AH} {hp hp1 : World} {x : Ex} {s' : St} (h : SimW φ H hp φ1 H1 hp1) {e : Exit} {a : Act} {w : World} (q : QA φ1 H1 hp1 x s' e a w) : QA φ H hp x s' e a w := by
  obtain ⟨h1, φ', h2, h3, h4⟩ := q
  exact ⟨h1, φ', h.trans h2, h3, h4⟩

section
variable {P : Program} {ap : AP} {w : World}

theorem rel_loop {φ : Inj} {H : AH} {hp : Array Obj} (hr : Rel φ H hp) {l : Nat} {p : PL} {st : LoopState} {pe : Option Code} {env : List AV} {ps : Array Tmp} {as bd : AC} {d : Nat} (hl : φ l = some p) (h : H[l]? = some (.loop st pe env ps as bd d)) :
    ∃ (r : Loop) (p' : PL), hp[p.blk]? = some (.loop r) ∧ r.state = st ∧ r.pending = pe ∧ ER φ env r.tmps ∧ r.params = ps ∧ erase r.assign = as.strip ∧ erase r.body = bd.strip ∧ φ d = some p' ∧ r.defers = p'.blk := by
  obtain ⟨A, O, h1, h2, h3⟩ := hr.blk l p hl
  rw [h] at h1; cases h1
  cases h3 with
  | loop _ _ _ _ _ _ _ r p' k1 k2 k3 k4 k5 k6 k7 k8 => exact ⟨r, p', h2, k1, k2, k3, k4, k5, k6, k7, k8⟩
theorem set_loop {φ : Inj} {H : AH} {w : World} (hr : Rel φ H w.heap) {l : Nat} {p p' : PL} {st st' : LoopState} {pe pe' : Option Code} {env : List AV} {ps : Array Tmp} {as bd : AC} {d : Nat} {r : Loop} (hl : φ l = some p)
    (h : H[l]? = some (.loop st pe env ps as bd d)) (ho : w.heap[p.blk]? = some (.loop r)) (k3 : ER φ env r.tmps) (k4 : r.params = ps) (k5 : erase r.assign = as.strip) (k6 : erase r.body = bd.strip) (k7 : φ d = some p') (k8 : r.defers = p'.blk) :
    SimW φ H w φ (H.set l (.loop st' pe' env ps as bd d)) (w.putObj p.blk (.loop { r with state := st', pending := pe' })) :=
  ⟨Sim.write hr hl h rfl ho (fun c e fr q => by cases q) (.loop _ _ _ _ _ _ _ _ p' rfl rfl k3 k4 k5 k6 k7 k8) (.inl rfl), ⟨rfl, rfl, rfl⟩⟩

theorem exOf_jump {c : Code} {x : Ex} (h : jumpEx c = some x) {F : Fence} {n : Nat} {Q : Exit → Act → World → Prop} {a : Act} {w : World} (hq : Q (exOf x) a w) : c.wpIn F n P Q a w := by
  cases c <;> simp only [jumpEx] at h <;> try (cases h; done)
  · cases h; exact wpIn_exit hq
  · cases h; exact wpIn_ret hq

theorem sound_range (hg : TyAgree P ap) {cf : CallF} (hcf : CallOk P cf) {lo n : Nat} {φ : Inj} {s s' : St} {a : Act} {w : World} {x : Ex} {rd ro : Option Nat} (hr : Rel φ s.H w.heap) (he : ER φ s.env a.tmps) (hm : MR φ s.marks a.defers)
    (hrd : RdR φ rd ro) {k : Nat} {g : Operand} {ps : Array Tmp} {as bd : AC} {asC bdC : Code} (has : erase asC = as.strip) (hbd : erase bdC = bd.strip) (h : evCode ap cf lo rd k (.range g ps as bd) s = some (x, s')) :
    (Code.rangeFunc g ps asC bdC).wpIn (W ro) n P (QA φ s.H w x s') a w := by
  simp only [evCode] at h
  split at h
  · cases h
  · rename_i hfun
    have hfun : isFunc (opd s.env g) = true := by simpa using hfun
    replace h := Option.bind_eq_some_iff.1 h
    obtain ⟨⟨d, H1, marks⟩, e1, h⟩ := h
    replace h := Option.bind_eq_some_iff.1 h
    obtain ⟨⟨r1, H3⟩, e2, h⟩ := h
    simp only at e2 h
    refine wpIn_rangeFunc (fun fn hfn => ?_)
    -- what is laid
    obtain ⟨l, mark, w1, φ1, i1, i2, i3, i4, i5⟩ : ∃ (l : Nat) (mark : List Deferred) (w1 : World) (φ1 : Inj), (Instr.enterLoop fn a.tmps ps asC bdC (W ro).round).run P w = .ok (l, mark) w1 ∧
        SimW φ s.H w φ1 (H1 ++ [.loop .ready none s.env ps as bd d]) w1 ∧ (∃ R, φ1 H1.length = some ⟨l, 0, R⟩) ∧ MR φ1 marks (mark ++ a.defers) ∧ ER φ1 s.env a.tmps := by
      cases rd with
      | none =>
        cases ro with
        | some _ => exact hrd.elim
        | none =>
          simp only [enterA] at e1
          cases e1
          have s1 := Sim.alloc hr (A := .deferred false) (O := .deferred (some [])) (d := 0) (R := 0) (.deferred false)
          have s2 := Sim.alloc s1.rel (A := .loop .ready none s.env ps as bd s.H.length) (d := 0) (R := 0)
            (O := .loop { state := .ready, pending := none, fn, tmps := a.tmps, params := ps, assign := asC, body := bdC, defers := w.heap.size })
            (.loop _ _ _ _ _ _ _ _ ⟨w.heap.size, 0, 0⟩ rfl rfl (he.mono (Inj.le_trans s1.ext (s1.rel.upd_le _))) rfl has hbd ((s1.rel.upd_le _) _ _ (upd_self _ _ _)) rfl)
          refine ⟨_, _, _, _, run_enterLoop_outer _ _ _ _ _, ⟨s1.trans s2, ⟨rfl, rfl, rfl⟩⟩, ⟨0, ?_⟩, ⟨⟨_, (s1.rel.upd_le _) _ _ (upd_self _ _ _), rfl⟩, hm.mono (Inj.le_trans s1.ext s2.ext)⟩, he.mono (Inj.le_trans s1.ext s2.ext)⟩
          rw [upd_self]
          simp
      | some l0 =>
        cases ro with
        | none => exact hrd.elim
        | some r0 =>
          obtain ⟨p0, q1, rfl⟩ := hrd
          simp only [enterA] at e1
          split at e1
          · rename_i st0 pe0 env0 ps0 as0 bd0 d0 hl0
            cases e1
            obtain ⟨r, p', j1, j2, j3, j4, j5, j6, j7, j8, j9⟩ := rel_loop hr q1 hl0
            have s2 := Sim.alloc hr (A := .loop .ready none s.env ps as bd d) (d := 0) (R := 0)
              (O := .loop { state := .ready, pending := none, fn, tmps := a.tmps, params := ps, assign := asC, body := bdC, defers := r.defers })
              (.loop _ _ _ _ _ _ _ _ p' rfl rfl (he.mono (hr.upd_le _)) rfl has hbd ((hr.upd_le _) _ _ j8) j9)
            exact ⟨_, _, _, _, run_enterLoop_inner j1 _ _ _ _ _, ⟨s2, ⟨rfl, rfl, rfl⟩⟩, ⟨0, upd_self _ _ _⟩, hm.mono s2.ext, he.mono s2.ext⟩
          · cases e1
    obtain ⟨R, i3⟩ := i3
    obtain ⟨dd, nx, w2, k1, k2, k3, k4, k5⟩ := hcf φ1 _ w1 (opd s.env g) (a.eval g) [.yield H1.length] #[.func (.yield l) #[] #[]] lo r1 H3 e2 i2.rel (vr_opd i5 g)
      ⟨rfl, fun i b v h1 h2 => by
        cases i with
        | zero => simp at h1 h2; subst h1; subst h2; exact .yield _ _ i3
        | succ i => simp at h1⟩
    obtain ⟨f, fargs, rfl⟩ := k5 hfun
    refine ⟨l, mark, w1, dd, w1, f, fargs, w2, i1, ?_, fun _ _ => trivial, k2, W_dep ro, callsIn_W ro ((k4 _).mono ?_)⟩
    · simp only [resolve]
      simpa [Act.eval] using k1
    · rintro e w3 ⟨v', φ', rfl, s3, _⟩
      unfold leaveA at h
      split at h
      · rename_i st pe env2 ps2 as2 bd2 d2 hl
        split at h
        · cases h
        · rename_i hbusy
          have q1 := s3.ext _ _ i3
          obtain ⟨r, p', j1, j2, j3, j4, j5, j6, j7, j8, j9⟩ := rel_loop s3.rel q1 hl
          have s4 := set_loop (st' := .exhausted) (pe' := r.pending) s3.rel q1 hl j1 j4 j5 j6 j7 j8 j9
          have hend : (Instr.endLoop l).run P w3 = .ok r.pending (w3.putObj l (.loop { r with state := .exhausted })) := run_endLoop j1 (by rw [j2]; exact hbusy)
          refine ⟨_, _, hend, ?_⟩
          have hs := (i2.trans s3).trans s4
          have hext := Inj.le_trans s3.ext s4.ext
          rw [j3]
          cases pe with
          | none =>
            simp only at h ⊢
            cases h
            rw [j3] at s4 hs
            exact ⟨rfl, φ', hs, he.mono (Inj.le_trans i2.ext hext), i4.mono hext⟩
          | some c =>
            simp only at h ⊢
            obtain ⟨x1, h1, h2⟩ := Option.map_eq_some_iff.1 h
            cases h2
            rw [j3] at s4 hs
            exact exOf_jump h1 ⟨rfl, φ', hs, he.mono (Inj.le_trans i2.ext hext), i4.mono hext⟩
      · cases h
end
end Go.Ab
