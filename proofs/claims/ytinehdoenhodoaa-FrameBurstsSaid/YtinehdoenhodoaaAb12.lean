import Derived.Test.YtinehdoenhodoaaAb16
set_option linter.unusedVariables false
set_option linter.unusedSimpArgs false
namespace Go.Ab
section
variable {P : Program} {ap : AP}

theorem roundsIn_mono {F : Fence} {n : Nat} {c : Code} {Q Q' : Exit → Act → World → Prop} (hq : ∀ e a w, Q e a w → Q' e a w) : ∀ (i : Nat) (a : Act) (w : World), Code.roundsIn F n P c Q i a w → Code.roundsIn F n P c Q' i a w
  | 0, _, _, h => h
  | i + 1, a, w, h => by
    rw [roundsIn_succ] at h ⊢
    refine wpIn_mono h ?_
    intro e a' w' q
    cases e with
    | normal => exact roundsIn_mono hq i a' w' q
    | _ => exact hq _ _ _ q

theorem sound_code (hmx : P.follows .mixedOrders = true) (hg : TyAgree P ap) {cf : CallF} (hcf : CallOk P cf) {lo n k : Nat} {rd ro : Option Nat} : ∀ (ac : AC) (c : Code), erase c = ac.strip → ∀ (φ : Inj) (s : St) (a : Act) (w : World) (x : Ex) (s' : St),
    evCode ap cf lo rd k ac s = some (x, s') → Rel φ s.H w.heap → ER φ s.env a.tmps → MR φ s.marks a.defers → RdR φ rd ro → c.wpIn (W ro) n P (QA φ s.H w x s') a w := by
  intro ac
  induction ac with
  | skip =>
    intro c hc φ s a w x s' h hr he hm hrd
    simp only [evCode] at h
    cases h
    have q : QA φ s.H w .normal s .normal a w := ⟨rfl, φ, .refl hr, he, hm⟩
    cases c <;> simp only [erase, AC.strip] at hc <;> try (cases hc; done)
    · exact wpIn_skip q
    · split at hc <;> cases hc
    · exact wpIn_label q
  | region ops =>
    intro c hc φ s a w x s' h hr he hm hrd
    simp only [evCode] at h
    obtain ⟨⟨env', H'⟩, e1, h⟩ := Option.map_eq_some_iff.1 h
    cases h
    cases c <;> simp only [erase, AC.strip] at hc <;> try (cases hc; done)
    rename_i id ops' d
    split at hc
    · cases hc
    · rename_i hd
      have hd : d = false := by simpa using hd
      subst hd
      cases hc
      exact wpIn_region_list (sound_ops hg hcf ops' ops'.toList φ s.H s.env a w env' H' e1 hr he fun φ' a' w' h1 h2 h3 => ⟨rfl, φ', h1, h2, by rw [h3]; exact hm.mono h1.ext⟩)
  | draw ops ord anc =>
    intro c hc φ s a w x s' h hr he hm hrd
    simp only [evCode] at h
    obtain ⟨⟨env', H'⟩, e1, h⟩ := Option.map_eq_some_iff.1 h
    cases h
    cases c <;> simp only [erase, AC.strip] at hc <;> try (cases hc; done)
    rename_i id ops' d
    split at hc
    · rename_i hd
      subst hd
      injection hc with hops
      subst hops
      exact sound_draw hmx hg hcf e1 hr he fun φ' a' w' h1 h2 h3 => ⟨rfl, φ', h1, h2, by rw [h3]; exact hm.mono h1.ext⟩
    · cases hc
  | seq a1 b1 iha ihb =>
    intro c hc φ s a w x s' h hr he hm hrd
    simp only [evCode] at h
    replace h := Option.bind_eq_some_iff.1 h
    obtain ⟨⟨x1, s1⟩, e1, h⟩ := h
    cases c <;> simp only [erase, AC.strip] at hc <;> try (cases hc; done)
    · split at hc <;> cases hc
    rename_i ca cb
    injection hc with hca hcb
    refine wpIn_seq (wpIn_mono (iha ca hca φ s a w x1 s1 e1 hr he hm hrd) ?_)
    rintro e a' w' ⟨rfl, φ', h1, h2, h3⟩
    cases x1 with
    | normal =>
      simp only at h
      exact wpIn_mono (ihb cb hcb φ' s1 a' w' x s' h h1.rel h2 h3 (hrd.mono h1.ext)) fun e a2 w2 q => q.pre h1
    | exit id => simp only at h; cases h; exact ⟨rfl, φ', h1, h2, h3⟩
    | ret => simp only at h; cases h; exact ⟨rfl, φ', h1, h2, h3⟩
  | cond c0 t1 e1 iht ihe =>
    intro c hc φ s a w x s' h hr he hm hrd
    simp only [evCode] at h
    cases c <;> simp only [erase, AC.strip] at hc <;> try (cases hc; done)
    · split at hc <;> cases hc
    rename_i c' ct ce
    injection hc with hc0 hct hce
    subst hc0
    have hv := vr_opd he c'
    split at h
    · rename_i hb
      rw [hb] at hv
      have hv' : a.eval c' = .bool true := by
        generalize a.eval c' = u at hv
        cases hv; rfl
      exact wpIn_cond_true hv' (iht ct hct φ s a w x s' h hr he hm hrd)
    · rename_i hb
      rw [hb] at hv
      have hv' : a.eval c' = .bool false := by
        generalize a.eval c' = u at hv
        cases hv; rfl
      exact wpIn_cond_false hv' (ihe ce hce φ s a w x s' h hr he hm hrd)
    · cases h
  | block id b ih =>
    intro c hc φ s a w x s' h hr he hm hrd
    simp only [evCode] at h
    replace h := Option.bind_eq_some_iff.1 h
    obtain ⟨⟨x1, s1⟩, e1, h⟩ := h
    cases c <;> simp only [erase, AC.strip] at hc <;> try (cases hc; done)
    · split at hc <;> cases hc
    rename_i id' cb
    injection hc with hid hcb
    subst hid
    refine wpIn_block (wpIn_mono (ih cb hcb φ s a w x1 s1 e1 hr he hm hrd) ?_)
    rintro e a' w' ⟨rfl, φ', h1, h2, h3⟩
    cases x1 with
    | normal => simp only at h; cases h; exact ⟨rfl, φ', h1, h2, h3⟩
    | ret => simp only at h; cases h; exact ⟨rfl, φ', h1, h2, h3⟩
    | exit i =>
      simp only at h
      show Exit.inBlock id' _ (.exit i) a' w'
      split at h
      · rename_i hi
        cases h
        simp only [Exit.inBlock, if_pos hi]
        exact ⟨rfl, φ', h1, h2, h3⟩
      · rename_i hi
        cases h
        simp only [Exit.inBlock, if_neg hi]
        exact ⟨rfl, φ', h1, h2, h3⟩
  | loop dead b ih =>
    intro c hc φ s a w x s' h hr he hm hrd
    simp only [evCode] at h
    cases c <;> simp only [erase, AC.strip] at hc <;> try (cases hc; done)
    · split at hc <;> cases hc
    rename_i cb
    injection hc with _ hcb
    refine wpIn_loop_rounds k ?_
    have key : ∀ (j : Nat) (φ : Inj) (s : St) (a : Act) (w : World), evLoop (fun s => evCode ap cf lo rd k b { s with env := mask dead s.env }) j s = some (x, s') → Rel φ s.H w.heap → ER φ s.env a.tmps → MR φ s.marks a.defers →
        RdR φ rd ro → Code.roundsIn (W ro) n P cb (QA φ s.H w x s') j a w := by
      intro j
      induction j with
      | zero => intro φ s a w h; simp only [evLoop] at h; cases h
      | succ j ihj =>
        intro φ s a w h hr he hm hrd
        simp only [evLoop] at h
        replace h := Option.bind_eq_some_iff.1 h
        obtain ⟨⟨x1, s1⟩, e1, h⟩ := h
        rw [roundsIn_succ]
        refine wpIn_mono (ih cb hcb φ { s with env := mask dead s.env } a w x1 s1 e1 hr (er_mask dead he) hm hrd) ?_
        rintro e a' w' ⟨rfl, φ', h1, h2, h3⟩
        cases x1 with
        | normal =>
          simp only at h
          have := ihj φ' s1 a' w' h h1.rel h2 h3 (hrd.mono h1.ext)
          exact roundsIn_mono (fun e a2 w2 q => q.pre h1) j a' w' this
        | exit id => simp only at h; cases h; exact ⟨rfl, φ', h1, h2, h3⟩
        | ret => simp only at h; cases h; exact ⟨rfl, φ', h1, h2, h3⟩
    exact key k φ s a w h hr he hm hrd
  | range g ps as bd _ _ =>
    intro c hc φ s a w x s' h hr he hm hrd
    cases c <;> simp only [erase, AC.strip] at hc <;> try (cases hc; done)
    · split at hc <;> cases hc
    rename_i g' ps' as' bd'
    injection hc with h1 h2 h3 h4
    subst h1; subst h2
    exact sound_range hg hcf hr he hm hrd h3 h4 h
  | exit id =>
    intro c hc φ s a w x s' h hr he hm hrd
    simp only [evCode] at h
    cases h
    cases c <;> simp only [erase, AC.strip] at hc <;> try (cases hc; done)
    · split at hc <;> cases hc
    · cases hc; exact wpIn_exit ⟨rfl, φ, .refl hr, he, hm⟩
  | ret =>
    intro c hc φ s a w x s' h hr he hm hrd
    simp only [evCode] at h
    cases h
    cases c <;> simp only [erase, AC.strip] at hc <;> try (cases hc; done)
    · split at hc <;> cases hc
    · exact wpIn_ret ⟨rfl, φ, .refl hr, he, hm⟩
  | bad => intro c hc φ s a w x s' h; simp only [evCode] at h; cases h

/-- A function that is told by a contract. -/
def PrimOk (P : Program) (f : Nat) (g : List AV → Nat → AH → Option (AV × AH)) : Prop :=
  ∀ (φ : Inj) (H : AH) (w : World) (args : List AV) (args' : Array Value) (lo : Nat) (v : AV) (H' : AH), g args lo H = some (v, H') → Rel φ H w.heap → ER φ args args' →
    (callFunc f args').run P w = .ok (.enter f args') w ∧ Calls P f args' w (Post φ H w v H')

/-- The tables are those of the program. -/
structure Agree (P : Program) (ap : AP) : Prop extends TyAgree P ap where
  mixed : P.follows .mixedOrders = true
  fn : ∀ f F, ap.fn f = some F → ∃ fn c, P.funcs[f]? = some fn ∧ fn.name ≠ "runtime.NumGoroutine" ∧ fn.body = some c ∧ erase c = F.body.strip ∧ fn.ntmps = F.ntmps ∧ fn.results.toList = F.results
  prim : ∀ f g, ap.prim f = some g → PrimOk P f g

theorem sound_take {φ : Inj} : ∀ (l : List Nat) (H : AH) (w : World) (H' : AH) (ds : List Deferred), takeA l H = some H' → Rel φ H w.heap → MR φ l ds →
    ∃ w', SimW φ H w φ H' w' ∧ ∀ {F : Fence} {n : Nat} {fn : Func} {tmps : Array Value} {R : Ending → World → Prop}, LeavesIn F n P fn tmps R [] .returning w' → LeavesInM F n P fn tmps R ds .returning w
  | [], H, w, H', [], h, hr, _ => by
    simp only [takeA] at h
    cases h
    exact ⟨w, .refl hr, fun h => h⟩
  | d :: r, H, w, H', x :: xs, h, hr, ⟨⟨p, hp, hx⟩, hm⟩ => by
    simp only [takeA] at h
    split at h
    · rename_i hd
      obtain ⟨A, O, h1, h2, h3⟩ := hr.blk d p hp
      rw [hd] at h1; cases h1
      have hO : O = .deferred (some []) := by cases h3; rfl
      subst hO
      have s1 : SimW φ H w φ (H.set d (.deferred true)) (w.putObj p.blk (.deferred none)) := ⟨Sim.write hr hp hd rfl h2 (fun c e fr q => by cases q) (.deferred true) (.inl rfl), ⟨rfl, rfl, rfl⟩⟩
      obtain ⟨w', s2, k⟩ := sound_take r _ (w.putObj p.blk (.deferred none)) H' xs h s1.rel hm
      refine ⟨w', s1.trans s2, fun {F n fn tmps R} hl => ?_⟩
      refine ⟨by simp, .inl ⟨p.blk, _, by rw [hx], run_takeDeferred h2, k hl⟩⟩
    · cases h
  | [], _, _, _, _ :: _, _, _, h => h.elim
  | _ :: _, _, _, _, [], _, _, h => h.elim

theorem sound_res (hg : TyAgree P ap) {φ : Inj} {H : AH} {w : World} (hr : Rel φ H w.heap) {env : List AV} {tmps : Array Value} (he : ER φ env tmps) : ∀ (rs : List ResultVar) (l : List AV), resA ap env H rs = some l →
    ∃ vs : List Value, (rs.mapM (m := Sem) fun
      | .tmp t => pure (tmps.getD t undef)
      | .cell a t => do loadVar t (← asAddr (tmps.getD a undef))).run P w = .ok vs w ∧ ER φ l vs.toArray
  | [], l, h => by
    simp only [resA] at h
    cases h
    exact ⟨[], by simp, er_nil φ⟩
  | r :: rs, l, h => by
    have cons : ∀ {v : AV} {v' : Value} {l : List AV} {vs : List Value}, VR φ v v' → ER φ l vs.toArray → ER φ (v :: l) (v' :: vs).toArray := by
      intro v v' l vs hv hl
      refine ⟨by have := hl.1; simpa using this, fun i a u h1 h2 => ?_⟩
      cases i with
      | zero => simp at h1 h2; subst h1; subst h2; exact hv
      | succ i => exact hl.2 i a u (by simpa using h1) (by simpa using h2)
    have hop : ∀ t, VR φ (Ab.get env t) (tmps.getD t undef) := fun t => vr_opd (a := { tmps := tmps, defers := [] }) he (.tmp t)
    cases r with
    | tmp t =>
      simp only [resA] at h
      obtain ⟨l1, e1, h⟩ := Option.map_eq_some_iff.1 h
      subst h
      obtain ⟨vs, k1, k2⟩ := sound_res hg hr he rs l1 e1
      refine ⟨_, ?_, cons (hop t) k2⟩
      rw [List.mapM_cons]
      simp only [Sem.run_bind, Sem.run_pure, Result.andThen_ok, k1]
    | cell a t =>
      simp only [resA] at h
      replace h := Option.bind_eq_some_iff.1 h
      obtain ⟨v, e0, h⟩ := h
      obtain ⟨l1, e1, h⟩ := Option.map_eq_some_iff.1 h
      subst h
      obtain ⟨vs, k1, k2⟩ := sound_res hg hr he rs l1 e1
      have ha := hop a
      obtain ⟨v', j1, j2⟩ := sound_load (P := P) hg hr ha e0
      have hld : ((do loadVar t (← asAddr (tmps.getD a undef))) : Sem Value).run P w = .ok v' w := by
        unfold aload at e0
        split at e0
        · rename_i b o hgp
          rw [hgp] at ha
          generalize tmps.getD a undef = u at ha j1
          cases ha with
          | ptr _ _ p hp => simpa [Instr.loadAt, Instr.sureAddr, asAddr] using j1
        · cases e0
      refine ⟨_, ?_, cons j2 k2⟩
      rw [List.mapM_cons]
      simp only [Sem.run_bind] at hld ⊢
      rw [hld]
      simp only [Result.andThen_ok, k1, Sem.run_pure]

theorem sound_resV {φ : Inj} {l : List AV} {vs : List Value} (h : ER φ l vs.toArray) : VR φ (resV l) (if h : vs.toArray.size = 1 then vs.toArray[0] else .tuple vs.toArray) := by
  match l, vs, h with
  | [v], [v'], h => exact h.2 0 v v' rfl rfl
  | [], [], h => exact .tuple _ _ h.1 h.2
  | a :: b :: l, a' :: b' :: vs, h => exact .tuple _ _ h.1 h.2
  | [], _ :: _, h => have := h.1; simp at this
  | _ :: _, [], h => have := h.1; simp at this
  | [_], _ :: _ :: _, h => have := h.1; simp at this
  | _ :: _ :: _, [_], h => have := h.1; simp at this

theorem er_env {φ : Inj} {l : List AV} {c : Array Value} (h : ER φ l c) (n : Nat) : ER φ (l ++ List.replicate (n - l.length) .undef) (c ++ Array.replicate (n - c.size) undef) := by
  refine er_append h ⟨by simp [h.1], fun i a v h1 h2 => ?_⟩
  have : a = .undef := by
    have := List.mem_of_getElem? h1
    exact List.eq_of_mem_replicate this
  subst this
  exact .undef _

theorem sound_fn (hg : Agree P ap) {cf : CallF} (hcf : CallOk P cf) {lo k f : Nat} {φ : Inj} {H : AH} {w : World} {args : List AV} {args' : Array Value} {v : AV} {H' : AH} (h : fnA ap cf lo k f args H = some (v, H')) (hr : Rel φ H w.heap) (he : ER φ args args') :
    (callFunc f args').run P w = .ok (.enter f args') w ∧ ∀ n, CallsIn Fence.wide n P f args' w (Post φ H w v H') := by
  unfold fnA at h
  replace h := Option.bind_eq_some_iff.1 h
  obtain ⟨F, e1, h⟩ := h
  replace h := Option.bind_eq_some_iff.1 h
  obtain ⟨⟨x, s⟩, e2, h⟩ := h
  obtain ⟨fn, c, f1, f2, f3, f4, f5, f6⟩ := hg.fn f F e1
  refine ⟨by simp [callFunc, f1, f2, f3], fun n => ?_⟩
  refine callsIn_of_wp_marks f1 f3 trivial ?_
  have henv := er_env he fn.ntmps
  have hcode := sound_code hg.mixed hg.toTyAgree hcf (n := n) (ro := none) (rd := none) F.body c f4 φ ⟨args ++ List.replicate (F.ntmps - args.length) .undef, H, []⟩ { tmps := args' ++ Array.replicate (fn.ntmps - args'.size) undef, defers := [] } w x s e2 hr
    (by rw [← f5]; exact henv) trivial trivial
  refine wpIn_mono hcode ?_
  rintro e a' w' ⟨rfl, φ', h1, h2, h3⟩
  have fin : ∀ {v : AV} {H' : AH}, ((takeA s.marks s.H).bind fun H' => (resA ap s.env H' F.results).map fun l => (resV l, H')) = some (v, H') → LeavesInM Fence.wide n P fn a'.tmps (Post φ H w v H') a'.defers .returning w' := by
    intro v H' h
    replace h := Option.bind_eq_some_iff.1 h
    obtain ⟨H2, e3, h⟩ := h
    obtain ⟨l, e4, h⟩ := Option.map_eq_some_iff.1 h
    cases h
    obtain ⟨w2, s2, k2⟩ := sound_take (P := P) s.marks s.H w' H' a'.defers e3 h1.rel h3
    refine k2 ?_
    obtain ⟨vs, r1, r2⟩ := sound_res hg.toTyAgree s2.rel h2 F.results l e4
    refine ⟨_, ?_, ⟨_, φ', rfl, h1.trans s2, sound_resV r2⟩⟩
    have hm : (fn.results.mapM (m := Sem) fun
      | .tmp t => pure (a'.tmps.getD t undef)
      | .cell a t => do loadVar t (← asAddr (a'.tmps.getD a undef))).run P w2 = .ok vs.toArray w2 := by
      rw [Array.mapM_eq_mapM_toList, f6, map_eq_pure_bind, Sem.run_bind, r1]
      rfl
    unfold results
    rw [Sem.run_bind]
    exact congrArg (fun r => r.andThen fun a w' => Sem.run P (pure (if h : a.size = 1 then a[0] else Value.tuple a)) w') hm
  cases x with
  | exit id => simp only at h; cases h
  | normal => exact fin h
  | ret => exact fin h

theorem er_setL {φ : Inj} : ∀ (l : List Tmp) (xs : List AV) (vs : List Value) (env : List AV) (c : Array Value), ER φ env c → ER φ xs vs.toArray → ER φ (setL env (l.zip xs)) ((l.zip vs).foldl (fun t x => t.setIfInBounds x.1 x.2) c)
  | [], _, _, env, c, h, _ => by simpa [setL] using h
  | t :: r, [], [], env, c, h, _ => by simpa [setL] using h
  | t :: r, x :: xs, v :: vs, env, c, h, hx => by
    have h0 := hx.2 0 x v rfl rfl
    have hs := er_set (a := { tmps := c, defers := [] }) h h0 (some t)
    simp only [List.zip_cons_cons, setL, List.foldl_cons]
    exact er_setL r xs vs _ _ hs ⟨by have := hx.1; simpa using this, fun i a u h1 h2 => hx.2 (i + 1) a u (by simpa using h1) (by simpa using h2)⟩
  | _ :: _, [], _ :: _, _, _, _, h => by have := h.1; simp at this
  | _ :: _, _ :: _, [], _, _, _, h => by have := h.1; simp at this

theorem sound_round (hmx : P.follows .mixedOrders = true) (hg : TyAgree P ap) {cf : CallF} (hcf : CallOk P cf) {lo k l : Nat} {φ : Inj} {H : AH} {w : World} {args : List AV} {args' : Array Value} {v : AV} {H' : AH} {p : PL} (h : roundA ap cf lo k l args H = some (v, H')) (hr : Rel φ H w.heap) (hl : φ l = some p) (he : ER φ args args') :
    ∃ f tmps as bd, (Instr.yield p.blk args').run P w = .ok (.round p.blk f tmps as bd) w ∧ ∀ n, RoundIn Fence.wide n P p.blk f tmps as bd w (Post φ H w v H') := by
  unfold roundA at h
  split at h
  · rename_i st pe env ps as bd d hH
    obtain ⟨r, p', j1, j2, j3, j4, j5, j6, j7, j8, j9⟩ := rel_loop hr hl hH
    split at h
    · cases h
    · rename_i hlen
      have hlen : args.length = ps.size := by simpa using hlen
      have hsz : args'.size = r.params.size := by rw [j5, ← hlen]; exact he.1.symm
      refine ⟨_, _, _, _, run_yield j1 hsz, fun n => ?_⟩
      replace h := Option.bind_eq_some_iff.1 h
      obtain ⟨⟨x1, s1⟩, e1, h⟩ := h
      simp only at h
      have htm : (r.params.zip args').foldl (fun tmps (x : Tmp × Value) => tmps.setIfInBounds x.1 x.2) r.tmps = (ps.toList.zip args'.toList).foldl (fun t x => t.setIfInBounds x.1 x.2) r.tmps := by
        rw [← Array.foldl_toList, Array.toList_zip, j5]
      have henv : ER φ (setL env (ps.toList.zip args)) ((r.params.zip args').foldl (fun tmps (x : Tmp × Value) => tmps.setIfInBounds x.1 x.2) r.tmps) := by
        rw [htm]
        exact er_setL _ _ _ _ _ j4 (by simpa using he)
      split at h
      · rename_i pe2 env2 ps2 as2 bd2 d2 hH1
        replace h := Option.bind_eq_some_iff.1 h
        obtain ⟨⟨x2, s2⟩, e2, h⟩ := h
        simp only at h
        refine roundIn_of_wpIn (F := Fence.wide) trivial ?_
        have hc1 := sound_code hmx hg hcf (n := n) (ro := some p.blk) (rd := some l) as r.assign j6 φ ⟨setL env (ps.toList.zip args), H, []⟩ { tmps := (r.params.zip args').foldl (fun tmps (x : Tmp × Value) => tmps.setIfInBounds x.1 x.2) r.tmps, defers := [] } w .normal s1 e1 hr henv trivial ⟨p, hl, rfl⟩
        refine wpIn_mono hc1 ?_
        rintro e a1 w1 ⟨rfl, φ1, q1, q2, q3⟩
        have hl1 := q1.ext _ _ hl
        obtain ⟨r1, p1, m1, m2, m3, m4, m5, m6, m7, m8, m9⟩ := rel_loop q1.rel hl1 hH1
        have sb := set_loop (st' := .busy) (pe' := r1.pending) q1.rel hl1 hH1 m1 m4 m5 m6 m7 m8 m9
        refine ⟨_, run_beginRound m1 m2, ?_⟩
        rw [m3] at sb
        have heq : ({ r1 with state := .busy, pending := pe2 } : Loop) = { r1 with state := .busy } := by rw [← m3]
        rw [heq] at sb
        have hc2 := sound_code hmx hg hcf (n := n) (ro := some p.blk) (rd := some l) bd r.body j7 φ1 ⟨s1.env, s1.H.set l (.loop .busy pe2 env2 ps2 as2 bd2 d2), s1.marks⟩ a1 (w1.putObj p.blk (.loop { r1 with state := .busy })) x2 s2 e2 sb.rel q2 q3 ⟨p, hl1, rfl⟩
        refine wpIn_mono hc2 ?_
        rintro e a2 w2 ⟨rfl, φ2, t1, t2, t3⟩
        split at h
        · rename_i st3 pe3 env3 ps3 as3 bd3 d3 hH2
          cases h
          have hl2 := t1.ext _ _ hl1
          obtain ⟨r2, p2, u1, u2, u3, u4, u5, u6, u7, u8, u9⟩ := rel_loop t1.rel hl2 hH2
          have se := set_loop (st' := if (jumpOf x2).isNone then .ready else .done) (pe' := jumpOf x2) t1.rel hl2 hH2 u1 u4 u5 u6 u7 u8 u9
          have hend := run_endRound (P := P) (jumpOf x2) u1
          have hall := ((q1.trans sb).trans t1).trans se
          have fin : ∃ v w', (Instr.endRound p.blk (jumpOf x2)).run P w2 = .ok v w' ∧ Post φ H w (.bool (jumpOf x2).isNone) (s2.H.set l (.loop (if (jumpOf x2).isNone then .ready else .done) (jumpOf x2) env3 ps3 as3 bd3 d3)) (.returned v) w' :=
            ⟨_, _, hend, _, φ2, rfl, hall, .bool _⟩
          cases x2 with
          | normal => exact fin
          | ret => exact fin
          | exit id => exact fin
        · cases h
      · cases h
  · cases h

theorem sound_call (hg : Agree P ap) : ∀ k, CallOk P (callA ap k)
  | 0 => fun φ H w f f' args args' lo v H' h => by simp only [callA] at h; cases h
  | k + 1 => fun φ H w f f' args args' lo v H' h hr hf he => by
    have ih := sound_call hg k
    simp only [callA] at h
    cases hf <;> simp only at h <;> try (cases h; done)
    · rename_i f l m l' m' h1 h2 h3 h4
      have hargs : ER φ (l ++ args ++ m) (l' ++ args' ++ m') := er_append (er_append ⟨h1, h2⟩ he) ⟨h3, h4⟩
      have main : (callFunc f (l' ++ args' ++ m')).run P w = .ok (.enter f (l' ++ args' ++ m')) w ∧ ∀ n, CallsIn Fence.wide n P f (l' ++ args' ++ m') w (Post φ H w v H') := by
        split at h
        · rename_i g hp
          obtain ⟨k1, k2⟩ := hg.prim f g hp φ H w _ _ lo v H' h hr hargs
          exact ⟨k1, fun n => callsIn_wide.2 k2⟩
        · exact sound_fn hg ih h hr hargs
      refine ⟨{ target := .fn (.func f) m', args := l' ++ args' }, .enter f (l' ++ args' ++ m'), w, by simp [Deferred.ofValue], ?_, rfl, main.2, fun _ => ⟨_, _, rfl⟩⟩
      simp only [invoke]
      exact main.1
    · rename_i l p hp
      obtain ⟨f, tmps, as, bd, k1, k2⟩ := sound_round hg.mixed hg.toTyAgree ih h hr hp he
      refine ⟨{ target := .fn (.yield p.blk) #[], args := #[] ++ args' }, .round p.blk f tmps as bd, w, by simp [Deferred.ofValue], ?_, rfl, k2, fun hh => by simp [isFunc] at hh⟩
      simp only [invoke, Array.empty_append]
      exact k1

/-! ### tables -/
def bodyOf (f : Func) : Code := f.body.getD .skip
/-- The loops over functions, in their order: the assignment, the body. -/
def rangesOf : Code → List (Code × Code)
  | .seq a b => rangesOf a ++ rangesOf b
  | .cond _ t e => rangesOf t ++ rangesOf e
  | .block _ b | .loop b => rangesOf b
  | .rangeFunc _ _ as bd => (as, bd) :: (rangesOf as ++ rangesOf bd)
  | _ => []
def rAs (c : Code) (k : Nat) : Code := ((rangesOf c)[k]?).elim .skip (·.1)
def rBd (c : Code) (k : Nat) : Code := ((rangesOf c)[k]?).elim .skip (·.2)
/-- The operations of a region. -/
def drawsOf : Code → List (Nat × Array Oper)
  | .seq a b => drawsOf a ++ drawsOf b
  | .cond _ t e => drawsOf t ++ drawsOf e
  | .block _ b | .loop b => drawsOf b
  | .rangeFunc _ _ as bd => drawsOf as ++ drawsOf bd
  | .region id ops _ => [(id, ops)]
  | _ => []
def drawOf (c : Code) (id : Nat) : Array Oper := ((drawsOf c).lookup id).getD #[]

def FnOk (P : Program) (f : Nat) (F : AFn) : Prop :=
  ∃ fn c, P.funcs[f]? = some fn ∧ fn.name ≠ "runtime.NumGoroutine" ∧ fn.body = some c ∧ erase c = F.body.strip ∧ fn.ntmps = F.ntmps ∧ fn.results.toList = F.results
theorem fnOk_of {P : Program} {f : Nat} {F : AFn} {fn : Func} {c : Code} (h : P.funcs[f]? = some fn) (hb : fn.body = some c) (hn : fn.name ≠ "runtime.NumGoroutine") (he : erase c = F.body.strip) (ht : fn.ntmps = F.ntmps) (hr : fn.results.toList = F.results) : FnOk P f F :=
  ⟨fn, c, h, hn, hb, he, ht, hr⟩
theorem lookup_mem {α : Type} : ∀ (l : List (Nat × α)) (k : Nat) (v : α), l.lookup k = some v → (k, v) ∈ l
  | (a, b) :: r, k, v, h => by
    rw [List.lookup_cons] at h
    split at h
    · rename_i e
      cases h
      have : k = a := by simpa using e
      subst this
      simp
    · exact List.mem_cons_of_mem _ (lookup_mem r k v h)
theorem agree_of {P : Program} {tys : List (Nat × TI)} {fns : List (Nat × AFn)} (h0 : P.follows .mixedOrders = true) (h1 : ∀ x ∈ tys, tiOf P x.1 = some x.2) (h2 : ∀ x ∈ fns, FnOk P x.1 x.2) :
    Agree P { ty := fun t => tys.lookup t, fn := fun f => fns.lookup f, prim := fun _ => none } where
  mixed := h0
  ty := fun t ti h => h1 _ (lookup_mem tys t ti h)
  fn := fun f F h => h2 _ (lookup_mem fns f F h)
  prim := fun f g h => by cases h
end
end Go.Ab
