import Derived.Test.YtinehdoenhodoaaAb20
/-! Regions whose order is drawn, carried out one behind the other on one environment. -/
set_option linter.unusedVariables false
set_option linter.unusedSimpArgs false
namespace Go.Ab
structure DP where
  i : Nat
  o : AO
  cl : Cl
  win : List Nat
structure SD where
  env : List AV
  cur : AH
  prev : List AH
  pend : List (List Nat × List AV × Op × AV)
def toAO (ops : List Oper) (o : Oper) : AO := { dst := o.dst, op := o.op, ty := o.type, guard := o.guard.map fun g => (ops.toArray[g.1]?).bind (·.dst), want := (o.guard.map (·.2)).getD true }
/-- Is there a later operation that makes a block, ahead of the next one that may turn memory? -/
def laterA (ap : AP) (ops : List Oper) (ord : List Nat) (i : Nat) : Bool := ord.any fun k => isCl ap ops .a k && decide (stOf ap ops ord k = stOf ap ops ord i) && decide (ord.idxOf i < ord.idxOf k)
def winC (ap : AP) (ops : List Oper) (ord : List Nat) (anc : List (List Nat)) (i : Nat) : List Nat :=
  if isCl ap ops .h i then (List.range (nE ap ops ord + 1)).filter fun j => inWin ap ops ord anc i j && (decide (j ≠ stOf ap ops ord i) || laterA ap ops ord i) else []
def compO (ap : AP) (ops : List Oper) (ord : List Nat) (anc : List (List Nat)) : List Nat → Option (List DP)
  | [] => some []
  | i :: r => (ops[i]?).bind fun o => (compO ap ops ord anc r).map fun l => ⟨i, toAO ops o, cls ap o.op, winC ap ops ord anc i⟩ :: l
def drawC (ap : AP) (ops : List Oper) (ord : List Nat) (anc : List (List Nat)) : Option (List DP) := if ordOk ap ops ord anc then compO ap ops ord anc ord else none

def seqStep (ap : AP) (cf : CallF) (lo base : Nat) (d : DP) (s : SD) : Option SD :=
  match wantedA s.env d.o.guard d.o.want with
  | none => none
  | some true => match d.cl with
    | .q => (aop ap lo s.env s.cur d.o.op).map fun r => ⟨setD s.env d.o.dst r.1, s.cur, s.prev, s.pend⟩
    | .h => (aop ap lo s.env s.cur d.o.op).map fun r => ⟨setD s.env d.o.dst r.1, s.cur, s.prev, if d.win.isEmpty then s.pend else (d.win, s.env, d.o.op, r.1) :: s.pend⟩
    | .a => (aop ap lo s.env (List.replicate (base + d.i) dead0) d.o.op).bind fun r => (r.2[base + d.i]?).bind fun A =>
        if (s.prev ++ [s.cur]).all fun H => isDeadB H[base + d.i]? then some ⟨setD s.env d.o.dst r.1, s.cur.set (base + d.i) A, s.prev, s.pend⟩ else none
    | .e => (aoper ap cf lo s.env s.cur d.o.op).map fun r => ⟨setD s.env d.o.dst r.1, r.2, s.prev ++ [s.cur], s.pend⟩
  | some false => match d.cl with
    | .e => some ⟨setD s.env d.o.dst (.tuple []), s.cur, s.prev ++ [s.cur], s.pend⟩
    | .a => if (s.prev ++ [s.cur]).all fun H => isDeadB H[base + d.i]? then some ⟨setD s.env d.o.dst (.tuple []), s.cur, s.prev, s.pend⟩ else none
    | _ => some ⟨setD s.env d.o.dst (.tuple []), s.cur, s.prev, s.pend⟩
def seqGo (ap : AP) (cf : CallF) (lo base : Nat) : List DP → SD → Option SD
  | [], s => some s
  | d :: r, s => (seqStep ap cf lo base d s).bind (seqGo ap cf lo base r)
def pendOk (ap : AP) (lo : Nat) (Fs : List AH) : List (List Nat × List AV × Op × AV) → Prop
  | [] => True
  | p :: r => (∀ j ∈ p.1, ∀ F, Fs[j]? = some F → Hx (aop ap lo p.2.1 F p.2.2.1) fun q => q.1 = p.2.2.2) ∧ pendOk ap lo Fs r
theorem pendOk_mem {ap : AP} {lo : Nat} {Fs : List AH} : ∀ {l : List (List Nat × List AV × Op × AV)}, pendOk ap lo Fs l → ∀ p ∈ l, ∀ j ∈ p.1, ∀ F, Fs[j]? = some F → Hx (aop ap lo p.2.1 F p.2.2.1) fun q => q.1 = p.2.2.2
  | [], _, p, h => by cases h
  | x :: r, ⟨h1, h2⟩, p, h => by
    rcases List.mem_cons.1 h with rfl | h
    · exact h1
    · exact pendOk_mem h2 p h

/-! what an operation looks at -/
def Agr (m m' : List AV) (xs : List Operand) : Prop := ∀ x ∈ xs, opd m x = opd m' x
theorem agr_of {m m' : List AV} {xs : List Operand} (h : ∀ t, Operand.tmp t ∈ xs → get m t = get m' t) : Agr m m' xs := by
  intro x hx
  cases x with
  | tmp t => exact h t hx
  | const v => rfl
  | global g => rfl
  | func f => rfl
theorem agr_map {m m' : List AV} {xs : List Operand} (h : Agr m m' xs) : xs.map (opd m) = xs.map (opd m') := List.map_congr_left h
theorem agr_parts {α : Type} {m m' : List AV} {ps : List (α × Operand)} (h : Agr m m' (ps.map (·.2))) : ps.map (fun p => (p.1, opd m p.2)) = ps.map (fun p => (p.1, opd m' p.2)) := by
  refine List.map_congr_left fun p hp => ?_
  rw [h p.2 (List.mem_map.2 ⟨p, hp, rfl⟩)]
theorem agr_opt {m m' : List AV} {o : Option Operand} (h : ∀ x, o = some x → opd m x = opd m' x) : optAll m o = optAll m' o := by
  cases o with
  | none => rfl
  | some x =>
    show some (opd m x) = some (opd m' x)
    rw [h x rfl]
theorem aop_looks {ap : AP} {lo : Nat} {m m' : List AV} {H : AH} {op : Op} (h : Agr m m' op.operands.toList) : aop ap lo m H op = aop ap lo m' H op := by
  have h1 : ∀ x, x ∈ op.operands.toList → opd m x = opd m' x := h
  cases op with
  | move x => simp only [aop, h1 x (by simp [Op.operands])]
  | assign x => simp only [aop, h1 x (by simp [Op.operands])]
  | pick c a b => simp only [aop, h1 c (by simp [Op.operands]), h1 a (by simp [Op.operands]), h1 b (by simp [Op.operands])]
  | alloc e => rfl
  | box t x => simp only [aop, h1 x (by simp [Op.operands])]
  | build t ps => simp only [aop, agr_parts (m := m) (m' := m') (ps := ps.toList) (fun x hx => h1 x (by simpa [Op.operands] using hx))]
  | buildSlice t n ps => simp only [aop, agr_parts (m := m) (m' := m') (ps := ps.toList) (fun x hx => h1 x (by simpa [Op.operands] using hx))]
  | load t a => simp only [aop, h1 a (by simp [Op.operands])]
  | store t a x => simp only [aop, h1 a (by simp [Op.operands]), h1 x (by simp [Op.operands])]
  | nilCheck x => simp only [aop, h1 x (by simp [Op.operands])]
  | binOp o t x y z => simp only [aop, h1 x (by simp [Op.operands]), h1 y (by simp [Op.operands])]
  | unOp o t x => simp only [aop, h1 x (by simp [Op.operands])]
  | convert s d x => simp only [aop, h1 x (by simp [Op.operands])]
  | makeInterface t x => simp only [aop, h1 x (by simp [Op.operands])]
  | makeFunc f first caps =>
    cases f with
    | func f =>
      simp only [aop]
      rw [agr_map (m := m) (m' := m') (xs := first.toList) (fun x hx => h1 x (by simp [Op.operands] at hx ⊢; exact .inl hx)), agr_map (m := m) (m' := m') (xs := caps.toList) (fun x hx => h1 x (by simp [Op.operands] at hx ⊢; exact .inr hx))]
    | _ => rfl
  | makeSlice t l c => simp only [aop, h1 l (by simp [Op.operands]), h1 c (by simp [Op.operands])]
  | slice t x l hi mx =>
    have a1 : optAll m l = optAll m' l := agr_opt fun y hy => h1 y (by subst hy; simp [Op.operands])
    have a2 : optAll m hi = optAll m' hi := agr_opt fun y hy => h1 y (by subst hy; simp [Op.operands])
    have a3 : optAll m mx = optAll m' mx := agr_opt fun y hy => h1 y (by subst hy; simp [Op.operands])
    simp only [aop, h1 x (by simp [Op.operands]), a1, a2, a3]
  | fieldAddr t x f => simp only [aop, h1 x (by simp [Op.operands])]
  | field t x f => simp only [aop, h1 x (by simp [Op.operands])]
  | indexAddr t x i => simp only [aop, h1 x (by simp [Op.operands]), h1 i (by simp [Op.operands])]
  | index t x i => simp only [aop, h1 x (by simp [Op.operands]), h1 i (by simp [Op.operands])]
  | extract x i => simp only [aop, h1 x (by simp [Op.operands])]
  | call c =>
    obtain ⟨ce, args, ts⟩ := c
    cases ce with
    | builtin b =>
      simp only [aop]
      rw [agr_map (m := m) (m' := m') (xs := args.toList) (fun x hx => h1 x (by simp [Op.operands, Call.operands] at hx ⊢; first | exact hx | exact .inl hx | exact .inr hx))]
    | _ => rfl
  | _ => rfl
theorem aoper_looks {ap : AP} {cf : CallF} {lo : Nat} {m m' : List AV} {H : AH} {op : Op} (h : Agr m m' op.operands.toList) : aoper ap cf lo m H op = aoper ap cf lo m' H op := by
  cases op with
  | call c =>
    obtain ⟨ce, args, ts⟩ := c
    cases ce with
    | value f =>
      simp only [aoper, callee]
      rw [h f (by simp [Op.operands, Call.operands]), agr_map (m := m) (m' := m') (xs := args.toList) (fun x hx => h x (by simp [Op.operands, Call.operands] at hx ⊢; first | exact hx | exact .inl hx | exact .inr hx))]
    | _ => exact aop_looks (ap := ap) (lo := lo) (H := H) h
  | _ => exact aop_looks (ap := ap) (lo := lo) (H := H) h

theorem get_mapIdx {env : List AV} {f : Nat → AV → AV} {t : Nat} : get (env.mapIdx f) t = match env[t]? with | some v => f t v | none => .undef := by
  unfold get
  rw [List.getElem?_mapIdx]
  cases env[t]? <;> rfl
section
variable {ap : AP} {cf : CallF} {lo : Nat} {ops : List Oper} {env : List AV} {base : Nat} {ord : List Nat} {anc : List (List Nat)} {vals : Nat → AV}
theorem sees (hO : OrdP ap ops ord anc) {D : Nat → Bool} (hD : Closed ops D) {i : Nat} {o : Oper} (ho : ops[i]? = some o) (hi : D i = false) (he : ∀ e ∈ edges o, D e = true) {t : Nat} (ht : t ∈ o.looksAt ops.toArray) :
    get (envM ops env vals o) t = get (envF ops env vals D) t := by
  unfold envM envF
  rw [get_mapIdx, get_mapIdx]
  cases env[t]? with
  | none => rfl
  | some v =>
    simp only
    rw [if_pos (by simpa using ht)]
    cases hw : writer ops t with
    | none => rfl
    | some j =>
      simp only
      rcases hO.look i o ho t ht j hw with rfl | hj | ⟨p, hp, hj⟩
      · have hn : ¬ j ∈ edges o := fun hh => by
          have := hO.edge j o ho j hh
          omega
        rw [if_neg (by simpa using hn), hi]
        simp
      · rw [if_pos (by simpa using hj), he j hj]
        simp
      · have hDj : D j = false := by
          cases hx : D j with
          | false => rfl
          | true => exact absurd (hD j p hp hx i hj) (by simp [hi])
        have hn : ¬ j ∈ edges o := fun hh => by rw [he j hh] at hDj; cases hDj
        rw [if_neg (by simpa using hn), hDj]
        simp
theorem sees_ops (hO : OrdP ap ops ord anc) {D : Nat → Bool} (hD : Closed ops D) {i : Nat} {o : Oper} (ho : ops[i]? = some o) (hi : D i = false) (he : ∀ e ∈ edges o, D e = true) : Agr (envM ops env vals o) (envF ops env vals D) o.op.operands.toList :=
  agr_of fun t ht => sees hO hD ho hi he (by
    unfold Oper.looksAt
    refine List.mem_append_left _ (List.mem_filterMap.2 ⟨.tmp t, ht, rfl⟩))
theorem sees_want (hO : OrdP ap ops ord anc) {D : Nat → Bool} (hD : Closed ops D) {i : Nat} {o : Oper} (ho : ops[i]? = some o) (hi : D i = false) (he : ∀ e ∈ edges o, D e = true) : wantedM ops (envM ops env vals o) o = wantedA (envF ops env vals D) (toAO ops o).guard (toAO ops o).want := by
  unfold wantedM
  show wantedA (envM ops env vals o) (toAO ops o).guard (toAO ops o).want = _
  cases hg : o.guard with
  | none => simp [toAO, hg, wantedA]
  | some g =>
    cases hgd : (ops.toArray[g.1]?).bind (·.dst) with
    | none => simp only [toAO, hg, Option.map_some, hgd, wantedA]
    | some d =>
      have := sees (env := env) (vals := vals) hO hD ho hi he (t := d) (by
        unfold Oper.looksAt
        rw [hg]
        simp only [hgd]
        simp)
      simp only [toAO, hg, Option.map_some, hgd, wantedA, this]
theorem puts (hO : OrdP ap ops ord anc) {D : Nat → Bool} {i : Nat} {o : Oper} (ho : ops[i]? = some o) (hi : D i = false) (v : AV) :
    envF ops env (setF vals i v) (with_ D i) = setD (envF ops env vals D) o.dst v := by
  apply List.ext_getElem?
  intro t
  have hne : ∀ j x, D j = true → setF vals i x j = vals j := fun j x hj => by
    unfold setF
    rw [if_neg (fun e => by subst e; rw [hi] at hj; cases hj)]
  have other : ∀ (x : AV) (j : Nat), j ≠ i → (if with_ D i j = true then setF vals i v j else x) = if D j = true then vals j else x := fun x j hj => by
    simp [with_, hj, setF]
  cases hd : o.dst with
  | none =>
    simp only [setD, envF, List.getElem?_mapIdx]
    cases env[t]? with
    | none => rfl
    | some x =>
      simp only [Option.map_some]
      cases hw : writer ops t with
      | none => rfl
      | some j =>
        simp only
        rw [other x j (fun e => ?_)]
        subst e
        unfold writer at hw
        have := List.findIdx?_eq_some_iff_getElem.1 hw
        obtain ⟨h1, h2, _⟩ := this
        have : ops[j] = o := by
          have := List.getElem?_eq_getElem h1
          rw [ho] at this
          exact (Option.some.inj this).symm
        rw [this, hd] at h2
        simp at h2
  | some d =>
    have hwd := hO.one i o d ho hd
    simp only [setD]
    by_cases htd : t = d
    · subst htd
      by_cases hlen : t < env.length
      · rw [List.getElem?_set_self (by simpa [envF] using hlen)]
        simp [envF, List.getElem?_mapIdx, hlen, hwd, with_, setF]
      · rw [List.getElem?_eq_none (by simpa [envF] using hlen), List.getElem?_eq_none (by simpa [envF] using hlen)]
    · rw [List.getElem?_set_ne (fun e => htd e.symm)]
      simp only [envF, List.getElem?_mapIdx]
      cases env[t]? with
      | none => rfl
      | some x =>
        simp only [Option.map_some]
        cases hw : writer ops t with
        | none => rfl
        | some j =>
          simp only
          rw [other x j (fun e => ?_)]
          subst e
          unfold writer at hw
          obtain ⟨h1, h2, _⟩ := List.findIdx?_eq_some_iff_getElem.1 hw
          have : ops[j] = o := by
            have := List.getElem?_eq_getElem h1
            rw [ho] at this
            exact (Option.some.inj this).symm
          rw [this, hd] at h2
          simp at h2
          exact htd h2.symm

theorem sameV_refl : ∀ (v : AV), sameV v v = true := by
  intro v
  refine AV.rec (motive_1 := fun v => sameV v v = true) (motive_2 := fun l => sameL l l = true) ?_ ?_ ?_ ?_ ?_ ?_ ?_ ?_ ?_ ?_ ?_ ?_ ?_ ?_ ?_ v
  all_goals first | (intros; simp_all [sameV, sameL]; done) | skip

/-- What is asked of an operation that reads memory. -/
def HF (ap : AP) (lo : Nat) (ops : List Oper) (env : List AV) (ord : List Nat) (anc : List (List Nat)) (vals : Nat → AV) (pend : List (List Nat × List AV × Op × AV)) (Fs : List AH) (i : Nat) : Prop :=
  ∀ o, ops[i]? = some o → cls ap o.op = .h → wantedM ops (envM ops env vals o) o = some true →
    (∃ F, Fs[stOf ap ops ord i]? = some F ∧ ∃ H, aop ap lo (envM ops env vals o) H o.op = some (vals i, H) ∧ (laterA ap ops ord i = false → H = F)) ∧
    (winC ap ops ord anc i = [] ∨ ∃ m, (winC ap ops ord anc i, m, o.op, vals i) ∈ pend ∧ ∀ H, aop ap lo m H o.op = aop ap lo (envM ops env vals o) H o.op)

theorem HF.step {vals : Nat → AV} {pend pend' : List (List Nat × List AV × Op × AV)} {Fs Fs' : List AH} {i i' : Nat} {v : AV} (h : HF ap lo ops env ord anc vals pend Fs i') (hne : i' ≠ i) (hed : ∀ o, ops[i']? = some o → i ∉ edges o)
    (hp : ∀ x ∈ pend, x ∈ pend') (hF : ∀ F, Fs[stOf ap ops ord i']? = some F → ∃ F', Fs'[stOf ap ops ord i']? = some F' ∧ (laterA ap ops ord i' = false → F' = F)) :
    HF ap lo ops env ord anc (setF vals i v) pend' Fs' i' := by
  intro o ho hc hw
  have hv : setF vals i v i' = vals i' := by unfold setF; rw [if_neg hne]
  have hm : envM ops env (setF vals i v) o = envM ops env vals o := envM_congr fun e he => by
    unfold setF
    exact if_neg (fun (x : e = i) => hed o ho (x ▸ he))
  rw [hm] at hw
  obtain ⟨⟨F, h1, H, h2, h3⟩, h4⟩ := h o ho hc hw
  obtain ⟨F', h5, h6⟩ := hF F h1
  rw [hv, hm]
  refine ⟨⟨F', h5, H, h2, fun hl => by rw [h6 hl]; exact h3 hl⟩, ?_⟩
  rcases h4 with h4 | ⟨m, h4, h7⟩
  · exact .inl h4
  · exact .inr ⟨m, hp _ h4, h7⟩

theorem seq_draw (hO : OrdP ap ops ord anc) : ∀ (r pre : List Nat) (s : DS) (q q' : SD) (l : List DP), pre ++ r = ord → s.prev.length = nE ap ops pre → compO ap ops ord anc r = some l →
    q.env = envF ops env s.vals (fun i => decide (i ∈ pre)) → q.cur = s.cur → q.prev = s.prev → (∀ i ∈ pre, HF ap lo ops env ord anc s.vals q.pend (s.prev ++ [s.cur]) i) → seqGo ap cf lo base l q = some q' →
    ∃ s', drawGo ap cf lo ops env base r s = some s' ∧ q'.env = envF ops env s'.vals (fun i => decide (i ∈ ord)) ∧ q'.cur = s'.cur ∧ q'.prev = s'.prev ∧ ∀ i ∈ ord, HF ap lo ops env ord anc s'.vals q'.pend (s'.prev ++ [s'.cur]) i
  | [], pre, s, q, q', l, hp, hl, hc, he, hcu, hpr, hh, h => by
    simp only [compO, Option.some.injEq] at hc
    subst hc
    simp only [seqGo, Option.some.injEq] at h
    subst h
    obtain rfl : pre = ord := by simpa using hp
    exact ⟨s, rfl, he, hcu, hpr, hh⟩
  | i :: r, pre, s, q, q', l, hp, hl, hc, he, hcu, hpr, hh, h => by
    simp only [compO] at hc
    obtain ⟨o, ho, hc⟩ := Option.bind_eq_some_iff.1 hc
    obtain ⟨l', hc', rfl⟩ := Option.map_eq_some_iff.1 hc
    simp only [seqGo] at h
    obtain ⟨q1, h1, h2⟩ := Option.bind_eq_some_iff.1 h
    have hnd : (pre ++ i :: r).Nodup := by rw [hp]; exact hO.nodup
    have hipre : i ∉ pre := fun hm => (List.nodup_append.1 hnd).2.2 i hm i (by simp) rfl
    have hst : stOf ap ops ord i = s.prev.length := by rw [← hp, stOf_append _ _ _ hipre, hl]; simp [stOf]
    have inpre : ∀ (j : Nat) (o' : Oper), ops[j]? = some o' → (j ∈ pre ∨ j = i) → ∀ e ∈ edges o', e ∈ pre := by
      intro j o' hj hji e hee
      obtain ⟨g1, g2⟩ := hO.edge j o' hj e hee
      by_cases hx : e ∈ pre
      · exact hx
      · exfalso
        have hje : ord.idxOf j ≤ pre.length := by
          rcases hji with hji | rfl
          · rw [← hp, List.idxOf_append, if_pos hji]
            exact List.idxOf_le_length
          · rw [← hp, List.idxOf_append, if_neg hipre]
            simp
        have : pre.length ≤ ord.idxOf e := by
          rw [← hp, List.idxOf_append, if_neg hx]
          omega
        omega
    have hcl : Closed ops fun i => decide (i ∈ pre) := fun j o' hj hd e hee => by
      simp only [decide_eq_true_eq] at hd ⊢
      exact inpre j o' hj (.inl hd) e hee
    have hD : (fun i => decide (i ∈ pre)) i = false := by simpa using hipre
    have hE : ∀ e ∈ edges o, (fun i => decide (i ∈ pre)) e = true := fun e hee => by simpa using inpre i o ho (.inr rfl) e hee
    have hw := sees_want (env := env) (vals := s.vals) hO hcl ho hD hE
    have hag := sees_ops (env := env) (vals := s.vals) hO hcl ho hD hE
    rw [← he] at hw hag
    have hpre1 : (pre ++ [i]) ++ r = ord := by simpa using hp
    have hfun : with_ (fun k => decide (k ∈ pre)) i = fun k => decide (k ∈ pre ++ [i]) := by
      funext k
      unfold with_
      by_cases hk : k = i <;> simp [hk]
    have henv : ∀ v, setD q.env o.dst v = envF ops env (setF s.vals i v) (fun k => decide (k ∈ pre ++ [i])) := fun v => by
      rw [← hfun, puts hO ho hD, he]
    have hedn : ∀ j ∈ pre, ∀ o' : Oper, ops[j]? = some o' → i ∉ edges o' := fun j hj o' ho' hm => hipre (inpre j o' ho' (.inl hj) i hm)
    have hnepre : ∀ j ∈ pre, j ≠ i := fun j hj e => hipre (e ▸ hj)
    have hmi : ∀ v, envM ops env (setF s.vals i v) o = envM ops env s.vals o := fun v => envM_congr fun e hee => by
      unfold setF
      exact if_neg (fun (x : e = i) => hipre (x ▸ inpre i o ho (.inr rfl) e hee))
    have hne : nE ap ops (pre ++ [i]) = s.prev.length + (if isCl ap ops .e i then 1 else 0) := by rw [nE_append, hl]; simp [nE]
    have clof : ∀ c, isCl ap ops c i = true ↔ cls ap o.op = c := fun c => isCl_iff ho
    have same : ∀ k, k < (s.prev ++ [s.cur]).length → ∀ F : AH, (s.prev ++ [s.cur])[k]? = some F → (s.prev ++ [s.cur] ++ [F])[k]? = (s.prev ++ [s.cur])[k]? := fun k hk F hF => List.getElem?_append_left hk
    have hstj : ∀ j ∈ pre, stOf ap ops ord j ≤ s.prev.length := fun j hj => by
      have hle : ∀ (l m : List Nat), j ∈ l → stOf ap ops (l ++ m) j ≤ nE ap ops l := by
        intro l m
        induction l with
        | nil => intro h; cases h
        | cons x r ih =>
          intro h
          simp only [List.cons_append, stOf, nE]
          split
          · omega
          · rename_i hx
            have := ih ((List.mem_cons.1 h).resolve_left (fun e => hx e.symm))
            omega
      rw [← hp, hl]
      exact hle pre _ hj
    -- calm: memory stays
    have calm : ∀ (v : AV) (pend : List (List Nat × List AV × Op × AV)), q1 = ⟨setD q.env o.dst v, s.cur, s.prev, pend⟩ → isCl ap ops .e i = false → (∀ x ∈ q.pend, x ∈ pend) → HF ap lo ops env ord anc (setF s.vals i v) pend (s.prev ++ [s.cur]) i →
        ∃ s', drawGo ap cf lo ops env base r ⟨setF s.vals i v, s.cur, s.prev⟩ = some s' ∧ q'.env = envF ops env s'.vals (fun i => decide (i ∈ ord)) ∧ q'.cur = s'.cur ∧ q'.prev = s'.prev ∧ ∀ i ∈ ord, HF ap lo ops env ord anc s'.vals q'.pend (s'.prev ++ [s'.cur]) i := by
      intro v pend hq1 hce hpd hi
      refine seq_draw hO r (pre ++ [i]) ⟨setF s.vals i v, s.cur, s.prev⟩ q1 q' l' hpre1 (by rw [hne, hce]; simp) hc' (by rw [hq1]; exact henv v) (by rw [hq1]) (by rw [hq1]) ?_ h2
      intro j hj
      rw [hq1]
      rcases List.mem_append.1 hj with hj | hj
      · exact (hh j hj).step (hnepre j hj) (hedn j hj) hpd fun F hF => ⟨F, hF, fun _ => rfl⟩
      · obtain rfl : j = i := by simpa using hj
        exact hi
    have made : ∀ (v : AV) (B : AH), q1 = ⟨setD q.env o.dst v, B, s.prev, q.pend⟩ → isCl ap ops .a i = true →
        ∃ s', drawGo ap cf lo ops env base r ⟨setF s.vals i v, B, s.prev⟩ = some s' ∧ q'.env = envF ops env s'.vals (fun i => decide (i ∈ ord)) ∧ q'.cur = s'.cur ∧ q'.prev = s'.prev ∧ ∀ i ∈ ord, HF ap lo ops env ord anc s'.vals q'.pend (s'.prev ++ [s'.cur]) i := by
      intro v B hq1 hca
      have hce : isCl ap ops .e i = false := by
        cases hx : isCl ap ops .e i with
        | false => rfl
        | true => exact absurd (((clof _).1 hca).symm.trans ((clof _).1 hx)) (by simp)
      refine seq_draw hO r (pre ++ [i]) ⟨setF s.vals i v, B, s.prev⟩ q1 q' l' hpre1 (by rw [hne, hce]; simp) hc' (by rw [hq1]; exact henv v) (by rw [hq1]) (by rw [hq1]) ?_ h2
      intro j hj
      rw [hq1]
      rcases List.mem_append.1 hj with hj | hj
      · refine (hh j hj).step (hnepre j hj) (hedn j hj) (fun _ h => h) fun F hF => ?_
        by_cases hk : stOf ap ops ord j = s.prev.length
        · refine ⟨B, by rw [hk]; simp, fun hl => ?_⟩
          exfalso
          have hji : ord.idxOf j < ord.idxOf i := by
            rw [← hp, List.idxOf_append, List.idxOf_append, if_pos hj, if_neg hipre]
            have := List.idxOf_lt_length_iff.2 hj
            omega
          have : laterA ap ops ord j = true := by
            unfold laterA
            refine List.any_eq_true.2 ⟨i, by rw [← hp]; simp, ?_⟩
            simp [hca, hst, hk, hji]
          rw [this] at hl; cases hl
        · have := hstj j hj
          have hlt : stOf ap ops ord j < s.prev.length := by omega
          refine ⟨F, ?_, fun _ => rfl⟩
          show (s.prev ++ [B])[stOf ap ops ord j]? = some F
          rw [List.getElem?_append_left hlt] at hF ⊢
          exact hF
      · obtain rfl : j = i := by simpa using hj
        intro o' ho' hc
        rw [ho] at ho'; cases ho'
        exact absurd (((clof _).1 hca).symm.trans hc) (by simp)
    have turn : ∀ (v : AV) (B : AH), q1 = ⟨setD q.env o.dst v, B, s.prev ++ [s.cur], q.pend⟩ → isCl ap ops .e i = true →
        ∃ s', drawGo ap cf lo ops env base r ⟨setF s.vals i v, B, s.prev ++ [s.cur]⟩ = some s' ∧ q'.env = envF ops env s'.vals (fun i => decide (i ∈ ord)) ∧ q'.cur = s'.cur ∧ q'.prev = s'.prev ∧ ∀ i ∈ ord, HF ap lo ops env ord anc s'.vals q'.pend (s'.prev ++ [s'.cur]) i := by
      intro v B hq1 hce
      refine seq_draw hO r (pre ++ [i]) ⟨setF s.vals i v, B, s.prev ++ [s.cur]⟩ q1 q' l' hpre1 (by rw [hne, hce]; simp) hc' (by rw [hq1]; exact henv v) (by rw [hq1]) (by rw [hq1]) ?_ h2
      intro j hj
      rw [hq1]
      rcases List.mem_append.1 hj with hj | hj
      · refine (hh j hj).step (hnepre j hj) (hedn j hj) (fun _ h => h) fun F hF => ⟨F, ?_, fun _ => rfl⟩
        show (s.prev ++ [s.cur] ++ [B])[stOf ap ops ord j]? = some F
        rw [List.getElem?_append_left (Nat.lt_of_le_of_lt (hstj j hj) (by simp))]
        exact hF
      · obtain rfl : j = i := by simpa using hj
        intro o' ho' hc
        rw [ho] at ho'; cases ho'
        exact absurd (((clof _).1 hce).symm.trans hc) (by simp)
    have fin : ∀ {s1 : DS}, drawStep ap cf lo ops env base i s = some s1 → (∃ s', drawGo ap cf lo ops env base r s1 = some s' ∧ q'.env = envF ops env s'.vals (fun i => decide (i ∈ ord)) ∧ q'.cur = s'.cur ∧ q'.prev = s'.prev ∧ ∀ i ∈ ord, HF ap lo ops env ord anc s'.vals q'.pend (s'.prev ++ [s'.cur]) i) →
        ∃ s', drawGo ap cf lo ops env base (i :: r) s = some s' ∧ q'.env = envF ops env s'.vals (fun i => decide (i ∈ ord)) ∧ q'.cur = s'.cur ∧ q'.prev = s'.prev ∧ ∀ i ∈ ord, HF ap lo ops env ord anc s'.vals q'.pend (s'.prev ++ [s'.cur]) i := by
      rintro s1 g1 ⟨s', g2, g3⟩
      exact ⟨s', by simp only [drawGo, g1, Option.bind_some]; exact g2, g3⟩
    have vac : ∀ v pend Fs, cls ap o.op ≠ .h → HF ap lo ops env ord anc v pend Fs i := fun v pend Fs hn o' ho' hc => by
      rw [ho] at ho'; cases ho'; exact absurd hc hn
    have vac2 : ∀ v pend Fs, wantedM ops (envM ops env s.vals o) o = some false → HF ap lo ops env ord anc (setF s.vals i v) pend Fs i := fun v pend Fs hn o' ho' hc hw' => by
      rw [ho] at ho'; cases ho'
      rw [hmi, hn] at hw'; cases hw'
    unfold seqStep at h1
    simp only at h1
    rw [← hw, hcu, hpr] at h1
    cases ht : wantedM ops (envM ops env s.vals o) o with
    | none => rw [ht] at h1; cases h1
    | some t =>
      rw [ht] at h1
      have hds : drawStep ap cf lo ops env base i s = drawStep ap cf lo ops env base i s := rfl
      conv at hds =>
        rhs
        unfold drawStep
        rw [ho, Option.bind_some, ht, Option.bind_some]
      cases t with
      | false =>
        simp only [Bool.false_eq_true, if_false] at hds
        simp only at h1
        cases hcl' : cls ap o.op with
        | e =>
          rw [hcl'] at h1
          simp only [Option.some.injEq] at h1
          have hce := (clof .e).2 hcl'
          rw [if_pos hce] at hds
          exact fin hds (turn (.tuple []) s.cur h1.symm hce)
        | a =>
          rw [hcl'] at h1
          simp only at h1
          have hca := (clof .a).2 hcl'
          have hce : isCl ap ops .e i = false := by
            cases hx : isCl ap ops .e i with
            | false => rfl
            | true => exact absurd (hcl'.symm.trans ((clof _).1 hx)) (by simp)
          rw [if_neg (by simp [hce]), if_pos hca] at hds
          split at h1
          · rename_i hd
            rw [if_pos hd] at hds
            simp only [Option.some.injEq] at h1
            exact fin hds (calm (.tuple []) q.pend h1.symm hce (fun _ h => h) (vac2 _ _ _ ht))
          · cases h1
        | q =>
          rw [hcl'] at h1
          simp only [Option.some.injEq] at h1
          have hce : isCl ap ops .e i = false := by
            cases hx : isCl ap ops .e i with
            | false => rfl
            | true => exact absurd (hcl'.symm.trans ((clof _).1 hx)) (by simp)
          have hca : isCl ap ops .a i = false := by
            cases hx : isCl ap ops .a i with
            | false => rfl
            | true => exact absurd (hcl'.symm.trans ((clof _).1 hx)) (by simp)
          rw [if_neg (by simp [hce]), if_neg (by simp [hca])] at hds
          exact fin hds (calm (.tuple []) q.pend h1.symm hce (fun _ h => h) (vac2 _ _ _ ht))
        | h =>
          rw [hcl'] at h1
          simp only [Option.some.injEq] at h1
          have hce : isCl ap ops .e i = false := by
            cases hx : isCl ap ops .e i with
            | false => rfl
            | true => exact absurd (hcl'.symm.trans ((clof _).1 hx)) (by simp)
          have hca : isCl ap ops .a i = false := by
            cases hx : isCl ap ops .a i with
            | false => rfl
            | true => exact absurd (hcl'.symm.trans ((clof _).1 hx)) (by simp)
          rw [if_neg (by simp [hce]), if_neg (by simp [hca])] at hds
          exact fin hds (calm (.tuple []) q.pend h1.symm hce (fun _ h => h) (vac2 _ _ _ ht))
      | true =>
        simp only [if_true] at hds
        simp only at h1
        cases hcl' : cls ap o.op with
        | e =>
          rw [hcl'] at h1 hds
          simp only at h1 hds
          obtain ⟨x, g1, rfl⟩ := Option.map_eq_some_iff.1 h1
          have g1' : aoper ap cf lo (envM ops env s.vals o) s.cur o.op = some x := (aoper_looks hag).trans g1
          rw [g1'] at hds
          exact fin hds (turn x.1 x.2 rfl ((clof .e).2 hcl'))
        | a =>
          rw [hcl'] at h1 hds
          simp only at h1 hds
          obtain ⟨x, g1, h1⟩ := Option.bind_eq_some_iff.1 h1
          obtain ⟨A, g2, h1⟩ := Option.bind_eq_some_iff.1 h1
          split at h1
          · rename_i hd
            simp only [Option.some.injEq] at h1
            have g1' : aop ap lo (envM ops env s.vals o) (List.replicate (base + i) dead0) o.op = some x := (aop_looks hag).trans g1
            rw [g1', Option.bind_some, g2, Option.bind_some, if_pos hd] at hds
            exact fin hds (made x.1 _ h1.symm ((clof .a).2 hcl'))
          · cases h1
        | q =>
          rw [hcl'] at h1 hds
          simp only at h1 hds
          obtain ⟨x, g1, rfl⟩ := Option.map_eq_some_iff.1 h1
          have g1' : aop ap lo (envM ops env s.vals o) s.cur o.op = some x := (aop_looks hag).trans g1
          rw [g1'] at hds
          have hce : isCl ap ops .e i = false := by
            cases hx : isCl ap ops .e i with
            | false => rfl
            | true => exact absurd (hcl'.symm.trans ((clof _).1 hx)) (by simp)
          exact fin hds (calm x.1 q.pend rfl hce (fun _ h => h) (vac _ _ _ (by rw [hcl']; simp)))
        | h =>
          rw [hcl'] at h1 hds
          simp only at h1 hds
          obtain ⟨x, g1, rfl⟩ := Option.map_eq_some_iff.1 h1
          have g1' : aop ap lo (envM ops env s.vals o) s.cur o.op = some x := (aop_looks hag).trans g1
          rw [g1'] at hds
          have hce : isCl ap ops .e i = false := by
            cases hx : isCl ap ops .e i with
            | false => rfl
            | true => exact absurd (hcl'.symm.trans ((clof _).1 hx)) (by simp)
          refine fin hds (calm x.1 _ rfl hce (fun y hy => by split <;> simp [hy]) ?_)
          intro o' ho' hc hw'
          rw [ho] at ho'; cases ho'
          rw [hmi]
          have hv : setF s.vals i x.1 i = x.1 := by simp [setF]
          rw [hv, hst]
          have hx := aop_same (.inr hcl') g1'
          refine ⟨⟨s.cur, by simp, s.cur, g1'.trans (by rw [← hx]), fun _ => rfl⟩, ?_⟩
          by_cases hwn : winC ap ops ord anc i = []
          · exact .inl hwn
          · refine .inr ⟨q.env, ?_, fun H => ?_⟩
            · rw [if_neg (by simpa using hwn)]
              simp [toAO]
            · exact (aop_looks hag).symm
theorem compO_len : ∀ (r : List Nat) (l : List DP), compO ap ops ord anc r = some l → l.length = r.length
  | [], l, h => by simp only [compO, Option.some.injEq] at h; subst h; rfl
  | i :: r, l, h => by
    simp only [compO] at h
    obtain ⟨o, _, h⟩ := Option.bind_eq_some_iff.1 h
    obtain ⟨l', h2, rfl⟩ := Option.map_eq_some_iff.1 h
    simp [compO_len r l' h2]
/-- Behind a drawn region. -/
def finK (ap : AP) (lo : Nat) (Q : List AV × AH → Prop) (q : SD) : Prop := pendOk ap lo (q.prev ++ [q.cur]) q.pend ∧ Q (q.env, q.cur)
@[simp] theorem finK_mk {Q : List AV × AH → Prop} {e : List AV} {c : AH} {p : List AH} {w : List (List Nat × List AV × Op × AV)} : finK ap lo Q ⟨e, c, p, w⟩ = (pendOk ap lo (p ++ [c]) w ∧ Q (e, c)) := propext ⟨fun h => h, fun h => h⟩
@[congr] theorem finK_congr {Q : List AV × AH → Prop} {q q' : SD} (h : tag q = q') : finK ap lo Q q = finK ap lo Q q' := by cases h; rfl
theorem hx_drawn {ops : Array Oper} {ds : List DP} (hc : drawC ap ops.toList ord anc = some ds) {H : AH} {Q : List AV × AH → Prop}
    (h : ∀ H1, Chg [] H H1 → H1.length = H.length + ds.length → (∀ i, i < ds.length → H1[H.length + i]? = some dead0) → Hx (seqGo ap cf lo H.length ds ⟨env, H1, [], []⟩) (finK ap lo Q)) :
    Hx (evDraw ap cf lo ops ord anc env H) Q := by
  unfold drawC at hc
  split at hc
  · rename_i hok
    have hO := ordP_of hok
    have hlen : ds.length = ops.size := by
      rw [compO_len _ _ hc]
      unfold ordOk at hok
      simp only [Bool.and_eq_true, decide_eq_true_eq] at hok
      simpa using hok.1.1.1.2
    rw [hlen] at h
    obtain ⟨q', h1, h2, h3⟩ := (h (H ++ List.replicate ops.size dead0) (.app _ _) (by simp) (fun i hi => by rw [List.getElem?_append_right (by omega)]; simp [hi])).ex
    obtain ⟨s', g1, g2, g3, g4, g5⟩ := seq_draw (cf := cf) (lo := lo) (env := env) (base := H.length) hO ord [] ⟨fun _ => .undef, H ++ List.replicate ops.size dead0, []⟩ ⟨env, H ++ List.replicate ops.size dead0, [], []⟩ q' ds (by simp) (by simp [nE]) hc (by
      apply List.ext_getElem?
      intro t
      simp only [envF, List.getElem?_mapIdx]
      cases env[t]? with
      | none => rfl
      | some x => simp; cases writer ops.toList t <;> rfl) rfl rfl (by simp) h1
    unfold evDraw
    rw [if_pos hok, g1, Option.bind_some]
    have hall : envF ops.toList env s'.vals (fun i => decide (i ∈ ord)) = envF ops.toList env s'.vals (fun _ => true) := by
      apply List.ext_getElem?
      intro t
      simp only [envF, List.getElem?_mapIdx]
      cases env[t]? with
      | none => rfl
      | some x =>
        simp only [Option.map_some]
        cases hw : writer ops.toList t with
        | none => rfl
        | some j =>
          unfold writer at hw
          obtain ⟨h1, _, _⟩ := List.findIdx?_eq_some_iff_getElem.1 hw
          simp [hO.all j h1]
    have hwin : winOk ap lo ops.toList env ord anc s'.vals (s'.prev ++ [s'.cur]) = true := by
      unfold winOk
      refine List.all_eq_true.2 fun i hi => ?_
      have hlt := hO.lt i hi
      have ho : ops.toList[i]? = some ops.toList[i] := List.getElem?_eq_getElem hlt
      rw [ho]
      simp only
      split
      · rename_i hcond
        simp only [Bool.and_eq_true, beq_iff_eq] at hcond
        obtain ⟨⟨F, k1, H2, k2, k3⟩, k4⟩ := g5 i hi _ ho ((isCl_iff ho).1 hcond.1) hcond.2
        refine List.all_eq_true.2 fun x hx => ?_
        obtain ⟨F', j⟩ := x
        have hFj : (s'.prev ++ [s'.cur])[j]? = some F' := by
          have := List.mem_zipIdx_iff_getElem?.1 hx
          simpa using this
        cases hiw : inWin ap ops.toList ord anc i j with
        | false => simp
        | true =>
          simp only [Bool.not_true, Bool.false_or]
          by_cases hown : j = stOf ap ops.toList ord i ∧ laterA ap ops.toList ord i = false
          · obtain ⟨rfl, hl⟩ := hown
            rw [k1] at hFj
            cases hFj
            rw [← k3 hl, k2]
            exact sameV_refl _
          · have hmem : j ∈ winC ap ops.toList ord anc i := by
              unfold winC
              rw [if_pos hcond.1]
              refine List.mem_filter.2 ⟨List.mem_range.2 ?_, ?_⟩
              · have hjl := (List.getElem?_eq_some_iff.1 hFj).1
                have T := trace (cf := cf) (lo := lo) (env := env) (base := H.length) hO ord [] _ _ (by simp) (by simp [nE]) g1
                have := T.len
                simp at this hjl
                omega
              · rw [hiw]
                simp only [Bool.true_and, Bool.or_eq_true, decide_eq_true_eq]
                by_cases hj : j = stOf ap ops.toList ord i
                · refine .inr ?_
                  cases hla : laterA ap ops.toList ord i with
                  | true => rfl
                  | false => exact absurd ⟨hj, hla⟩ hown
                · exact .inl hj
            rcases k4 with k4 | ⟨m, k4, k5⟩
            · rw [k4] at hmem; cases hmem
            · have := pendOk_mem h2 _ k4 j hmem F' (by rw [g3, g4]; exact hFj)
              simp only at this
              rw [k5] at this
              obtain ⟨y, y1, y2⟩ := this.ex
              rw [y1]
              simp only
              rw [y2]
              exact sameV_refl _
      · rfl
    rw [if_pos hwin, Hx_some, ← hall, ← g2, ← g3]
    exact h3
  · cases hc
end

/-! by simp -/
def dK (ap : AP) (cf : CallF) (lo base : Nat) (r : List DP) (Q : SD → Prop) (s : SD) : Prop := Hx (seqGo ap cf lo base r s) Q
section
variable {ap : AP} {cf : CallF} {lo base : Nat} {Q : SD → Prop}
@[simp] theorem dK_mk {r : List DP} {e : List AV} {c : AH} {p : List AH} {w : List (List Nat × List AV × Op × AV)} : dK ap cf lo base r Q ⟨e, c, p, w⟩ = Hx (seqGo ap cf lo base r ⟨e, c, p, w⟩) Q := propext ⟨fun h => h, fun h => h⟩
@[congr] theorem dK_congr {r : List DP} {s s' : SD} (h : tag s = s') : dK ap cf lo base r Q s = dK ap cf lo base r Q s' := by cases h; rfl
@[simp ↓] theorem hx_dnil {s : SD} : Hx (seqGo ap cf lo base [] s) Q = Q s := by simp only [seqGo, Hx_some]
@[simp ↓] theorem hx_dcons {d : DP} {r : List DP} {s : SD} : Hx (seqGo ap cf lo base (d :: r) s) Q = Hx (seqStep ap cf lo base d s) (dK ap cf lo base r Q) := by
  simp only [seqGo, Hx_bind]
  rfl
end
attribute [simp] seqStep pendOk
@[simp] theorem rep_get {n : Nat} {A : AB} : (List.replicate n dead0 ++ [A])[n]? = some A := by
  rw [List.getElem?_append_right (by simp)]; simp
@[simp] theorem isDeadB_0 : isDeadB (some dead0) = true := rfl
end Go.Ab
