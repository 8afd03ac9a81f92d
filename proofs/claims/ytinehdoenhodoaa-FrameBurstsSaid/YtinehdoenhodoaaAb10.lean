import Derived.Test.YtinehdoenhodoaaAb9
import Derived.RangeFuncRecord
import Derived.RangeFuncCalls
import Derived.TacticsIn
/-! The code: regions, branches, loops, calls, loops over functions. -/
set_option linter.unusedVariables false
set_option linter.unusedSimpArgs false
namespace Go.Ab

/-- No fence; in the round of a loop, or in none. -/
def W (ro : Option Nat) : Fence := { Fence.wide with round := ro }
theorem W_none : W none = Fence.wide := rfl
theorem W_dep (ro : Option Nat) {n : Nat} : (W ro).depth.isSome = true → 1 ≤ n := fun h => by simp [W, Fence.wide] at h
theorem callsIn_W (ro : Option Nat) {n : Nat} {P : Program} {f : FuncId} {args : Array Value} {w : World} {R : Ending → World → Prop} (h : CallsIn Fence.wide n P f args w R) : CallsIn (W ro) n P f args w R := h

def Post (φ : Inj) (H : AH) (w : World) (v : AV) (H' : AH) : Ending → World → Prop := fun e w' => ∃ v' φ', e = .returned v' ∧ SimW φ H w φ' H' w' ∧ VR φ' v v'
/-- Where a call leads, and what comes of it. -/
def GoesTo (P : Program) (nx : Next) (w : World) (R : Ending → World → Prop) : Prop :=
  match nx with
  | .enter f args => ∀ n, CallsIn Fence.wide n P f args w R
  | .round l f tmps as bd => ∀ n, RoundIn Fence.wide n P l f tmps as bd w R
  | _ => False

/-- What a call of a function value does. -/
def CallOk (P : Program) (cf : CallF) : Prop :=
  ∀ (φ : Inj) (H : AH) (w : World) (f : AV) (f' : Value) (args : List AV) (args' : Array Value) (lo : Nat) (v : AV) (H' : AH), cf f args lo H = some (v, H') → Rel φ H w.heap → VR φ f f' → ER φ args args' →
    ∃ d nx w1, (Deferred.ofValue f' args').run P w = .ok d w ∧ (invoke d.target d.args).run P w = .ok nx w1 ∧ w1 = w ∧ GoesTo P nx w1 (Post φ H w v H') ∧ (isFunc f = true → ∃ g gargs, nx = .enter g gargs)

section
variable {P : Program} {ap : AP} {φ : Inj} {H : AH} {w : World}

theorem er_set {env : List AV} {a : Act} (h : ER φ env a.tmps) {v : AV} {v' : Value} (hv : VR φ v v') (dst : Option Tmp) : ER φ (setD env dst v) (a.put dst v').tmps := by
  cases dst with
  | none => exact h
  | some d =>
    refine ⟨by simp [setD, Act.put, h.1], fun i x u e1 e2 => ?_⟩
    simp only [setD] at e1
    simp only [Act.put] at e2
    by_cases hi : d = i
    · subst hi
      have hlt : d < env.length := by
        have := (List.getElem?_eq_some_iff.1 e1).1
        simpa using this
      rw [List.getElem?_set_self hlt] at e1
      rw [Array.getElem?_setIfInBounds_self, if_pos (h.1 ▸ hlt)] at e2
      cases e1; cases e2; exact hv
    · rw [List.getElem?_set_ne hi] at e1
      rw [Array.getElem?_setIfInBounds_ne hi] at e2
      exact h.2 i x u e1 e2
theorem er_mask : ∀ (m : List Bool) {env : List AV} {c : Array Value}, ER φ env c → ER φ (mask m env) c := by
  have key : ∀ (m : List Bool) (env : List AV), (mask m env).length = env.length ∧ ∀ (i : Nat) (a : AV), (mask m env)[i]? = some a → a = .undef ∨ env[i]? = some a := by
    intro m
    induction m with
    | nil => intro env; exact ⟨rfl, fun i a h => .inr h⟩
    | cons b m ih =>
      intro env
      cases env with
      | nil => cases b <;> exact ⟨rfl, fun i a h => .inr h⟩
      | cons v e =>
        obtain ⟨h1, h2⟩ := ih e
        cases b
        · simp only [mask]
          refine ⟨by simp [h1], fun i a h => ?_⟩
          cases i with
          | zero => simp at h; exact .inl h.symm
          | succ i => simpa using h2 i a (by simpa using h)
        · simp only [mask]
          refine ⟨by simp [h1], fun i a h => ?_⟩
          cases i with
          | zero => simp at h; right; simp [h]
          | succ i => simpa using h2 i a (by simpa using h)
  intro m env c h
  obtain ⟨h1, h2⟩ := key m env
  refine ⟨h1.trans h.1, fun i a v e1 e2 => ?_⟩
  rcases h2 i a e1 with rfl | e
  · exact .undef _
  · exact h.2 i a v e e2

theorem get_bool {env : List AV} {a : Act} (h : ER φ env a.tmps) {d : Nat} {b : Bool} (e : Ab.get env d = .bool b) : a.tmps[d]? = some (.bool b) := by
  unfold Ab.get at e
  cases hd : env[d]? with
  | none => rw [hd] at e; simp at e
  | some v =>
    rw [hd] at e
    simp at e
    subst e
    have hlt : d < a.tmps.size := by
      have := (List.getElem?_eq_some_iff.1 hd).1
      exact h.1 ▸ this
    have := h.2 d _ a.tmps[d] hd (by simp [hlt])
    rw [Array.getElem?_eq_getElem hlt]
    cases hv : a.tmps[d] <;> rw [hv] at this <;> cases this
    rfl
theorem get_gap {env : List AV} {a : Act} (h : ER φ env a.tmps) {d : Nat} (e : Ab.get env d = .tuple []) : a.tmps[d]? = some (.tuple #[]) := by
  unfold Ab.get at e
  cases hd : env[d]? with
  | none => rw [hd] at e; simp at e
  | some v =>
    rw [hd] at e
    simp at e
    subst e
    have hlt : d < a.tmps.size := by
      have := (List.getElem?_eq_some_iff.1 hd).1
      exact h.1 ▸ this
    have := h.2 d _ a.tmps[d] hd (by simp [hlt])
    rw [Array.getElem?_eq_getElem hlt]
    cases hv : a.tmps[d] <;> rw [hv] at this <;> cases this
    rename_i l' h1 h2
    have : l' = #[] := Array.size_eq_zero_iff.1 h1.symm
    rw [this]
theorem gap_vr {φ : Inj} : VR φ (.tuple []) undef := .tuple [] #[] rfl (by simp)
theorem wanted_sound {env : List AV} {a : Act} (h : ER φ env a.tmps) {ops : Array Oper} {o : Oper} {t : Bool} (e : wantedA env (o.guard.map fun g => (ops[g.1]?).bind (·.dst)) ((o.guard.map (·.2)).getD true) = some t) :
    Region.wanted o (yielded ops a.tmps) = t := by
  unfold Region.wanted
  cases hg : o.guard with
  | none => rw [hg] at e; simpa [wantedA] using e
  | some gw =>
    obtain ⟨g, want⟩ := gw
    rw [hg] at e
    simp only [Option.map_some, Option.getD_some] at e
    cases hd : (ops[g]?).bind (·.dst) with
    | none => rw [hd] at e; simp [wantedA] at e
    | some d =>
      rw [hd] at e
      simp only [wantedA] at e
      split at e
      · rename_i b hb
        have := get_bool h hb
        cases e
        simp only [yielded, hd, Option.bind_some, this]
        cases b <;> cases want <;> rfl
      · rename_i hb
        have := get_gap h hb
        cases e
        simp only [yielded, hd, Option.bind_some, this]
        rfl
      · cases e

/-- One operation, in a region. -/
theorem sound_oper (hg : TyAgree P ap) {cf : CallF} (hcf : CallOk P cf) {ro : Option Nat} {n : Nat} (hr : Rel φ H w.heap) {env : List AV} {a : Act} (he : ER φ env a.tmps) {lo : Nat} {o : Oper} {v : AV} {H' : AH} (h : aoper ap cf lo env H o.op = some (v, H'))
    {K : Act → World → Prop} {Q : Exit → Act → World → Prop} (hK : ∀ v' φ' w', SimW φ H w φ' H' w' → VR φ' v v' → K (a.put o.dst v') w') : o.wpIn (W ro) n P a w K Q := by
  refine ⟨fun _ _ => trivial, ?_⟩
  have plain : aop ap lo env H o.op = some (v, H') → (∀ c, o.op ≠ .defer c) → o.uponIn (W ro) n P a K Q ((o.semAt (W ro).round a.eval).run P w) := by
    intro h hd
    obtain ⟨nx, v', w', φ', k1, k2, k3, k4⟩ := sound_aop hg hr he h
    rw [Oper.semAt_eq _ _ _ hd, k1]
    rcases k2 with rfl | ⟨rfl, rfl⟩
    · exact hK v' φ' w' k3 k4
    · exact hK undef φ' w' k3 k4
  unfold aoper at h
  split at h
  · rename_i c hop
    split at h
    · rename_i f hf
      rw [Oper.semAt_eq _ _ _ (by rw [hop]; intro c; simp)]
      obtain ⟨d, nx, w1, k1, k2, k3, k4, _⟩ := hcf φ H w _ _ _ _ lo v H' h hr (vr_opd he f) (er_opds he c.args)
      have hc : c.callee = .value f := by
        unfold callee at hf
        split at hf
        · rename_i e; cases hf; exact e
        · cases hf
      have hrun : (execOp a.eval o).run P w = .ok nx w1 := by
        simp only [execOp, hop, resolve, hc, Sem.run_bind, k1, Result.andThen_ok, k2]
      rw [hrun]
      cases nx <;> simp only [GoesTo] at k4 <;> try (cases k4; done)
      · rename_i g gargs
        refine ⟨W_dep ro, callsIn_W ro ((k4 _).mono ?_)⟩
        rintro e w' ⟨v', φ', rfl, s, r⟩
        exact hK v' φ' w' s r
      · rename_i l g tmps as bd
        refine ⟨W_dep ro, ?_⟩
        refine RoundIn.mono (k4 _) ?_
        rintro e w' ⟨v', φ', rfl, s, r⟩
        exact hK v' φ' w' s r
    · exact plain (by rw [hop]; exact h) (by rw [hop]; intro c; simp)
  · rename_i hop
    refine plain h ?_
    intro c hc
    rw [hc] at h
    simp [aop] at h

theorem sound_ops (hg : TyAgree P ap) {cf : CallF} (hcf : CallOk P cf) {ro : Option Nat} {n lo : Nat} (ops : Array Oper) {Q : Exit → Act → World → Prop} : ∀ (l : List Oper) (φ : Inj) (H : AH) (env : List AV) (a : Act) (w : World) (env' : List AV) (H' : AH),
    evOps ap cf lo (eraseOps l fun g => (ops[g]?).bind (·.dst)) env H = some (env', H') → Rel φ H w.heap → ER φ env a.tmps →
    (∀ φ' a' w', SimW φ H w φ' H' w' → ER φ' env' a'.tmps → a'.defers = a.defers → Q .normal a' w') → wpListIn (W ro) n P ops Q l a w
  | [], φ, H, env, a, w, env', H', h, hr, he, hQ => by
    simp only [eraseOps, List.map_nil, evOps] at h
    cases h
    exact hQ φ a w (.refl hr) he rfl
  | o :: r, φ, H, env, a, w, env', H', h, hr, he, hQ => by
    simp only [eraseOps, List.map_cons, evOps] at h
    replace h := Option.bind_eq_some_iff.1 h
    obtain ⟨t, e1, h⟩ := h
    have hw := wanted_sound he e1
    unfold wpListIn
    split at h
    · rename_i ht
      rw [if_pos (by rw [hw]; exact ht)]
      replace h := Option.bind_eq_some_iff.1 h
      obtain ⟨⟨v, H1⟩, e2, h⟩ := h
      refine sound_oper hg hcf hr he e2 ?_
      intro v' φ' w' hs hv
      refine sound_ops hg hcf ops r φ' H1 _ _ w' env' H' h hs.rel (er_set (he.mono hs.ext) hv o.dst) ?_
      intro φ2 a2 w2 s2 r2 d2
      refine hQ φ2 a2 w2 (hs.trans s2) r2 (d2.trans ?_)
      cases o.dst <;> rfl
    · rename_i ht
      rw [if_neg (by rw [hw]; exact ht)]
      refine ⟨fun _ _ => trivial, ?_⟩
      refine sound_ops hg hcf ops r φ H _ _ w env' H' h hr (er_set he gap_vr o.dst) ?_
      intro φ2 a2 w2 s2 r2 d2
      refine hQ φ2 a2 w2 s2 r2 (d2.trans ?_)
      cases o.dst <;> rfl
end
end Go.Ab
