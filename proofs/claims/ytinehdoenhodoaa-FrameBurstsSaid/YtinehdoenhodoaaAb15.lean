import Derived.Test.YtinehdoenhodoaaAb14
set_option linter.unusedVariables false
set_option linter.unusedSimpArgs false
namespace Go.Ab
section
variable {P : Program} {ap : AP} {cf : CallF} {lo : Nat} {ops : List Oper} {env : List AV} {base : Nat} {ord : List Nat} {anc : List (List Nat)} {vals : Nat → AV} {Fs : List AH} {φ0 : Inj} {H0 : AH} {w0 : World} {defers : List Deferred}

/-- How things stand when the operations of D have been carried out. -/
structure Inv (ap : AP) (ops : List Oper) (env : List AV) (base : Nat) (ord : List Nat) (vals : Nat → AV) (Fs : List AH) (φ0 : Inj) (H0 : AH) (w0 : World) (defers : List Deferred) (D : Nat → Bool) (φ : Inj) (j : Nat) (F : AH) (a : Act) (w : World) : Prop where
  hF : Fs[j]? = some F
  e : ∀ i, i < ops.length → isCl ap ops .e i = true → (D i = true ↔ stOf ap ops ord i < j)
  cnt : ∀ m, m < j → ∃ i, i < ops.length ∧ isCl ap ops .e i = true ∧ stOf ap ops ord i = m
  sim : SimW φ0 H0 w0 φ F w
  off : ∀ s, s < ops.length → D s = false → φ (base + s) = none
  early : ∀ s, s < ops.length → isCl ap ops .a s = true → D s = true → j < stOf ap ops ord s → φ (base + s) = none ∨
    ∃ p A O F', φ (base + s) = some p ∧ w.heap[p.blk]? = some O ∧ BR φ p A O ∧ Fs[stOf ap ops ord s]? = some F' ∧ F'[base + s]? = some A ∧ w0.heap.size ≤ p.blk ∧ F[base + s]? = some dead0 ∧ ∀ b p', φ b = some p' → b ≠ base + s → p'.blk ≠ p.blk
  len : base + ops.length ≤ F.length
  env : ER φ (envF ops env vals D) a.tmps
  defs : a.defers = defers

theorem er_mapIdx {φ : Inj} {l : List AV} {f : Nat → AV → AV} {c : Array Value} (h : ∀ (t : Nat) (v : AV) (u : Value), l[t]? = some v → c[t]? = some u → VR φ (f t v) u) (hl : l.length = c.size) : ER φ (l.mapIdx f) c := by
  refine ⟨by simp [hl], fun t a u e1 e2 => ?_⟩
  rw [List.getElem?_mapIdx] at e1
  cases hv : l[t]? with
  | none => rw [hv] at e1; cases e1
  | some v => rw [hv] at e1; cases e1; exact h t v u hv e2

/-- What the operation sees is what there is. -/
theorem env_sees (hO : OrdP ap ops ord anc) {φ : Inj} {D : Nat → Bool} (hD : Closed ops D) {c : Array Value} (h : ER φ (envF ops env vals D) c) {i : Nat} {o : Oper} (ho : ops[i]? = some o) (hi : D i = false) (he : ∀ e ∈ edges o, D e = true) :
    ER φ (envM ops env vals o) c := by
  have hlen : env.length = c.size := by have := h.1; simpa [envF] using this
  unfold envM
  refine er_mapIdx (fun t v u e1 e2 => ?_) hlen
  have h2 := h.2 t
  simp only [envF, List.getElem?_mapIdx, e1, Option.map_some] at h2
  split
  · rename_i hlook
    have hlook : t ∈ o.looksAt ops.toArray := by simpa using hlook
    cases hw : writer ops t with
    | none => simp only [hw] at h2 ⊢; exact h2 _ _ rfl e2
    | some j =>
      simp only [hw] at h2 ⊢
      have h3 := h2 _ _ rfl e2
      rcases hO.look i o ho t hlook j hw with rfl | hj | ⟨p, hp, hj⟩
      · rw [hi] at h3
        have hn : ¬ j ∈ edges o := fun hh => by
          have := hO.edge j o ho j hh
          omega
        rw [if_neg (by simpa using hn)]
        simpa using h3
      · rw [if_pos (by simpa using hj)]
        rw [he j hj] at h3
        simpa using h3
      · have hDj : D j = false := by
          cases hx : D j with
          | false => rfl
          | true => exact absurd (hD j p hp hx i hj) (by simp [hi])
        rw [hDj] at h3
        have hn : ¬ j ∈ edges o := fun hh => by rw [he j hh] at hDj; cases hDj
        rw [if_neg (by simpa using hn)]
        simpa using h3
  · exact .undef _

def with_ (D : Nat → Bool) (i : Nat) : Nat → Bool := fun k => if k = i then true else D k
theorem env_put (hO : OrdP ap ops ord anc) {φ : Inj} {D : Nat → Bool} {a : Act} (h : ER φ (envF ops env vals D) a.tmps) {i : Nat} {o : Oper} (ho : ops[i]? = some o) {v' : Value} (hv : VR φ (vals i) v') :
    ER φ (envF ops env vals (with_ D i)) (a.put o.dst v').tmps := by
  have hlen : env.length = a.tmps.size := by have := h.1; simpa [envF] using this
  have hsz : (a.put o.dst v').tmps.size = a.tmps.size := by cases o.dst <;> simp [Act.put]
  unfold envF
  refine er_mapIdx (fun t v u e1 e2 => ?_) (by rw [hsz]; exact hlen)
  have h2 := h.2 t
  simp only [envF, List.getElem?_mapIdx, e1, Option.map_some] at h2
  cases hd : o.dst with
  | none =>
    rw [hd] at e2
    have h3 := h2 _ u rfl e2
    cases hw : writer ops t with
    | none => rw [hw] at h3; exact h3
    | some j =>
      rw [hw] at h3
      simp only at h3 ⊢
      have hji : j ≠ i := by
        intro e
        subst e
        unfold writer at hw
        obtain ⟨hlt, h6, _⟩ := List.findIdx?_eq_some_iff_getElem.1 hw
        have hoj : ops[j] = o := (List.getElem?_eq_some_iff.1 ho).2
        rw [hoj, hd] at h6
        simp at h6
      simpa [with_, hji] using h3
  | some d =>
    rw [hd] at e2
    simp only [Act.put] at e2
    have hwd := hO.one i o d ho hd
    by_cases htd : d = t
    · subst htd
      have hlt : d < a.tmps.size := by
        have h9 : d < env.length := (List.getElem?_eq_some_iff.1 e1).1
        exact hlen ▸ h9
      rw [Array.getElem?_setIfInBounds_self, if_pos hlt] at e2
      cases e2
      rw [hwd]
      simpa [with_] using hv
    · rw [Array.getElem?_setIfInBounds_ne htd] at e2
      have h3 := h2 _ u rfl e2
      cases hw : writer ops t with
      | none => rw [hw] at h3; exact h3
      | some j =>
        rw [hw] at h3
        simp only at h3 ⊢
        by_cases hji : j = i
        · subst hji
          exfalso
          unfold writer at hw
          obtain ⟨hlt, h6, _⟩ := List.findIdx?_eq_some_iff_getElem.1 hw
          have hoj : ops[j] = o := (List.getElem?_eq_some_iff.1 ho).2
          rw [hoj, hd] at h6
          simp at h6
          exact htd h6
        · simpa [with_, hji] using h3

/-- What was made early stays, whatever an operation does elsewhere. -/
theorem early_kept {φ φ' : Inj} {D : Nat → Bool} {j : Nat} {F B : AH} {a : Act} {w w' : World} (I : Inv ap ops env base ord vals Fs φ0 H0 w0 defers D φ j F a w) (h : SimW φ F w φ' B w') {s : Nat} (hs : s < ops.length) (hc : isCl ap ops .a s = true) (hd : D s = true) (hj : j < stOf ap ops ord s) :
    φ' (base + s) = none ∨ ∃ p A O F', φ' (base + s) = some p ∧ w'.heap[p.blk]? = some O ∧ BR φ' p A O ∧ Fs[stOf ap ops ord s]? = some F' ∧ F'[base + s]? = some A ∧ w0.heap.size ≤ p.blk ∧ ∀ b p', φ' b = some p' → b ≠ base + s → p'.blk ≠ p.blk := by
  rcases I.early s hs hc hd hj with hn | ⟨p, A, O, F', h1, h2, h3, h4, h5, h6, h7, h8⟩
  · left
    cases hx : φ' (base + s) with
    | none => rfl
    | some p =>
      rcases h.new _ _ hx with e | e
      · rw [hn] at e; cases e
      · have := I.len; omega
  · right
    have hlt : p.blk < w.heap.size := (Array.getElem?_eq_some_iff.1 h2).1
    have hno : ∀ b p0 A0, φ b = some p0 → F[b]? = some A0 → A0.own = true → p0.blk ≠ p.blk := by
      intro b p0 A0 e1 e2 e3
      by_cases hb : b = base + s
      · subst hb
        rw [h7] at e2; cases e2; cases e3
      · exact h8 b p0 e1 hb
    refine ⟨p, A, O, F', h.ext _ _ h1, ?_, h3.mono h.ext, h4, h5, h6, fun b p' e hb => ?_⟩
    · rw [h.frame _ hlt hno]; exact h2
    · rcases h.img2 b p' e with e | e | ⟨b0, p0, A0, e1, e2, e3, e4⟩
      · exact h8 b p' e hb
      · omega
      · rw [← e4]; exact hno b0 p0 A0 e1 e2 e3
theorem off_kept {φ φ' : Inj} {D : Nat → Bool} {j : Nat} {F B : AH} {a : Act} {w w' : World} (I : Inv ap ops env base ord vals Fs φ0 H0 w0 defers D φ j F a w) (h : SimW φ F w φ' B w') {s : Nat} (hs : s < ops.length) (hn : φ (base + s) = none) : φ' (base + s) = none := by
  cases hx : φ' (base + s) with
  | none => rfl
  | some p =>
    rcases h.new _ _ hx with e | e
    · rw [hn] at e; cases e
    · have := I.len; omega

/-- All facts at hand. -/
structure All (ap : AP) (cf : CallF) (lo : Nat) (ops : List Oper) (env : List AV) (base : Nat) (ord : List Nat) (anc : List (List Nat)) (vals : Nat → AV) (Fs : List AH) : Prop where
  O : OrdP ap ops ord anc
  facts : ∀ i, i < ops.length → ∃ o t, Fact ap cf lo ops env base (stOf ap ops ord) vals Fs i (stOf ap ops ord i) o t
  win : ∀ (i j : Nat) (o : Oper) (F : AH), ops[i]? = some o → cls ap o.op = .h → wantedM ops (envM ops env vals o) o = some true → Fs[j]? = some F → inWin ap ops ord anc i j = true →
    ∃ r, aop ap lo (envM ops env vals o) F o.op = some r ∧ r.1 = vals i

theorem stay (hA : All ap cf lo ops env base ord anc vals Fs) {φ φ' : Inj} {D : Nat → Bool} {j i : Nat} {F : AH} {a : Act} {w w' : World} {o : Oper} {v' : Value} (I : Inv ap ops env base ord vals Fs φ0 H0 w0 defers D φ j F a w) (ho : ops[i]? = some o)
    (hne : isCl ap ops .e i = false) (hna : isCl ap ops .a i = false ∨ φ' (base + i) = none) (h : SimW φ F w φ' F w') (hv : VR φ' (vals i) v') :
    Inv ap ops env base ord vals Fs φ0 H0 w0 defers (with_ D i) φ' j F (a.put o.dst v') w' where
  hF := I.hF
  e := fun k hk hc => by
    have hki : k ≠ i := fun e => by subst e; rw [hne] at hc; cases hc
    simpa [with_, hki] using I.e k hk hc
  cnt := I.cnt
  sim := I.sim.trans h
  off := fun s hs hd => by
    have : s ≠ i := fun e => by subst e; simp [with_] at hd
    exact off_kept I h hs (I.off s hs (by simpa [with_, this] using hd))
  early := fun s hs hc hd hj => by
    by_cases hsi : s = i
    · subst hsi
      rcases hna with hna | hna
      · rw [hna] at hc; cases hc
      · exact .inl hna
    · rcases early_kept I h hs hc (by simpa [with_, hsi] using hd) hj with e | ⟨p, A, O, F', h1, h2, h3, h4, h5, h6, h7⟩
      · exact .inl e
      · obtain ⟨o', t', hf⟩ := hA.facts s hs
        exact .inr ⟨p, A, O, F', h1, h2, h3, h4, h5, h6, hf.dead ((isCl_iff hf.ho).1 hc) j F hj I.hF, h7⟩
  len := I.len
  env := env_put hA.O (by have := I.env; exact this.mono h.ext) ho hv
  defs := by rw [← I.defs]; cases o.dst <;> rfl

theorem advance (hA : All ap cf lo ops env base ord anc vals Fs) {φ φ' : Inj} {D : Nat → Bool} {j i : Nat} {F B F' : AH} {a : Act} {w w' : World} {o : Oper} {v' : Value} (I : Inv ap ops env base ord vals Fs φ0 H0 w0 defers D φ j F a w) (ho : ops[i]? = some o)
    (hce : isCl ap ops .e i = true) (hst : stOf ap ops ord i = j) (hDi : D i = false) (h : SimW φ F w φ' B w') (hv : VR φ' (vals i) v') (hF' : Fs[j + 1]? = some F') (hlen : F'.length = B.length)
    (hext : ∀ b, (∀ s, s < ops.length → isCl ap ops .a s = true → stOf ap ops ord s = j + 1 → b ≠ base + s) → F'[b]? = B[b]?) :
    Inv ap ops env base ord vals Fs φ0 H0 w0 defers (with_ D i) φ' (j + 1) F' (a.put o.dst v') w' := by
  have hi : i < ops.length := (List.getElem?_eq_some_iff.1 ho).1
  have ht := I.sim.trans h
  -- the blocks that come to life
  have slot : ∀ s, s < ops.length → isCl ap ops .a s = true → stOf ap ops ord s = j + 1 → ∀ p, φ' (base + s) = some p →
      ∃ A O, F'[base + s]? = some A ∧ w'.heap[p.blk]? = some O ∧ BR φ' p A O ∧ w0.heap.size ≤ p.blk ∧ ∀ b p', φ' b = some p' → b ≠ base + s → p'.blk ≠ p.blk := by
    intro s hs hc hsj p hp
    have hd : D s = true := by
      cases hx : D s with
      | true => rfl
      | false => rw [off_kept I h hs (I.off s hs hx)] at hp; cases hp
    rcases early_kept I h hs hc hd (by omega) with e | ⟨q, A, O, F'', h1, h2, h3, h4, h5, h6, h7⟩
    · rw [hp] at e; cases e
    · rw [hp] at h1; cases h1
      rw [hsj, hF'] at h4
      cases h4
      exact ⟨A, O, h5, h2, h3, h6, h7⟩
  have isSlot : ∀ b, (∃ s, s < ops.length ∧ isCl ap ops .a s = true ∧ stOf ap ops ord s = j + 1 ∧ b = base + s) ∨ F'[b]? = B[b]? := by
    intro b
    by_cases hx : ∃ s, s < ops.length ∧ isCl ap ops .a s = true ∧ stOf ap ops ord s = j + 1 ∧ b = base + s
    · exact .inl hx
    · exact .inr (hext b fun s h1 h2 h3 h4 => hx ⟨s, h1, h2, h3, h4⟩)
  refine ⟨hF', fun k hk hc => ?_, fun m hm => ?_, ⟨⟨ht.ext, ht.new, ⟨fun b p hb => ?_, fun b p A b' p' A' e1 e2 e3 e4 e5 e6 e7 => ?_⟩, ?_, ht.size, ht.frame, fun b p A e1 e2 e3 => ?_, ht.img2⟩, ht.str⟩, fun s hs hd => ?_, fun s hs hc hd hj => ?_, ?_, env_put hA.O (I.env.mono h.ext) ho hv, ?_⟩
  · by_cases hki : k = i
    · subst hki; simp [with_, hst]
    · have := I.e k hk hc
      have hne : stOf ap ops ord k ≠ j := fun e => hki (stOf_inj ord k i (hA.O.all k hk) (hA.O.all i hi) hc hce (e.trans hst.symm))
      simp only [with_, hki, if_false]
      rw [this]; omega
  · by_cases hmj : m < j
    · exact I.cnt m hmj
    · exact ⟨i, hi, hce, by omega⟩
  · rcases isSlot b with ⟨s, h1, h2, h3, rfl⟩ | hx
    · obtain ⟨A, O, g1, g2, g3, _⟩ := slot s h1 h2 h3 p hb
      exact ⟨A, O, g1, g2, g3⟩
    · obtain ⟨A, O, g1, g2, g3⟩ := ht.rel.blk b p hb
      exact ⟨A, O, hx.trans g1, g2, g3⟩
  · rcases isSlot b with ⟨s, h1, h2, h3, rfl⟩ | hx
    · obtain ⟨_, _, _, _, _, _, g⟩ := slot s h1 h2 h3 p e1
      exact absurd e7 (g b' p' e4 e6)
    · rcases isSlot b' with ⟨s, h1, h2, h3, rfl⟩ | hx'
      · obtain ⟨_, _, _, _, _, _, g⟩ := slot s h1 h2 h3 p' e4
        exact absurd e7.symm (g b p e1 (fun e => e6 e.symm))
      · rw [hx] at e2; rw [hx'] at e5
        exact ht.rel.excl b p A b' p' A' e1 e2 e3 e4 e5 e6 e7
  · rw [hlen]; exact ht.len
  · rcases isSlot b with ⟨s, h1, h2, h3, rfl⟩ | hx
    · obtain ⟨_, _, _, _, _, g, _⟩ := slot s h1 h2 h3 p e1
      exact .inl g
    · rw [hx] at e2
      exact ht.img b p A e1 e2 e3
  · have : s ≠ i := fun e => by subst e; simp [with_] at hd
    exact off_kept I h hs (I.off s hs (by simpa [with_, this] using hd))
  · have hsi : s ≠ i := fun e => by
      subst e
      have h1 := (isCl_iff ho).1 hc
      rw [(isCl_iff ho).1 hce] at h1
      cases h1
    rcases early_kept I h hs hc (by simpa [with_, hsi] using hd) (by omega) with e | ⟨p, A, O, F'', h1, h2, h3, h4, h5, h6, h7⟩
    · exact .inl e
    · obtain ⟨o', t', hf⟩ := hA.facts s hs
      exact .inr ⟨p, A, O, F'', h1, h2, h3, h4, h5, h6, hf.dead ((isCl_iff hf.ho).1 hc) (j + 1) F' hj hF', h7⟩
  · have h1 := I.len
    have h2 := h.len
    rw [hlen]; omega
  · rw [← I.defs]; cases o.dst <;> rfl
end
end Go.Ab
