import Derived.Test.YtinehdoenhodoaaAb15
set_option linter.unusedVariables false
set_option linter.unusedSimpArgs false
namespace Go.Ab
section
variable {P : Program} {ap : AP} {cf : CallF} {lo : Nat} {ops : List Oper} {env : List AV} {base : Nat} {ord : List Nat} {anc : List (List Nat)} {vals : Nat → AV} {Fs : List AH} {φ0 : Inj} {H0 : AH} {w0 : World} {defers : List Deferred}

/-- A block that was foreseen comes to be. -/
theorem Sim.grow {hp0 : Array Obj} {φ : Inj} {F : AH} {hp : Array Obj} (s : Sim φ0 H0 hp0 φ F hp) {b0 : Nat} {A : AB} {O : Obj} {d R : Nat} (hb : H0.length ≤ b0) (hn : φ b0 = none) (hA : F[b0]? = some A)
    (hB : BR (upd φ b0 ⟨hp.size, d, R⟩) ⟨hp.size, d, R⟩ A O) : Sim φ0 H0 hp0 (upd φ b0 ⟨hp.size, d, R⟩) F (hp.push O) := by
  have hle : φ.le (upd φ b0 ⟨hp.size, d, R⟩) := fun b q e => by
    unfold upd
    rw [if_neg (fun x => by subst x; rw [hn] at e; cases e)]
    exact e
  refine ⟨Inj.le_trans s.ext hle, fun b p e => ?_, ⟨fun b p e => ?_, fun b p A1 b' p' A1' e1 e2 e3 e4 e5 e6 e7 => ?_⟩, s.len, ?_, fun r hr hno => ?_, fun b p A1 e1 e2 e3 => ?_, fun b p e => ?_⟩
  · unfold upd at e
    split at e
    · rename_i h; subst h; exact .inr hb
    · exact s.new b p e
  · unfold upd at e
    split at e
    · rename_i h; subst h; cases e
      exact ⟨A, O, hA, by simp, hB⟩
    · obtain ⟨A1, O1, h1, h2, h3⟩ := s.rel.blk b p e
      have hl2 := s.rel.lt2 e
      exact ⟨A1, O1, h1, by rw [Array.getElem?_push, if_neg (by omega)]; exact h2, h3.mono hle⟩
  · unfold upd at e1 e4
    split at e1
    · cases e1
      split at e4
      · omega
      · have := s.rel.lt2 e4
        simp only at e7
        omega
    · split at e4
      · cases e4
        have := s.rel.lt2 e1
        simp only at e7
        omega
      · exact s.rel.excl b p A1 b' p' A1' e1 e2 e3 e4 e5 e6 e7
  · have := s.size; simp; omega
  · have := s.size
    rw [Array.getElem?_push, if_neg (by omega)]; exact s.frame r hr hno
  · unfold upd at e1
    split at e1
    · cases e1; exact .inl s.size
    · exact s.img b p A1 e1 e2 e3
  · unfold upd at e
    split at e
    · cases e; exact .inr (.inl s.size)
    · exact s.img2 b p e

theorem aoper_plain {m : List AV} {F : AH} {op : Op} (h : cls ap op ≠ .e) : aoper ap cf lo m F op = aop ap lo m F op := by
  unfold aoper
  split
  · rename_i c
    cases hc : c.callee with
    | value f => exfalso; apply h; simp [cls, hc]
    | invoke a b => simp [callee, hc]
    | builtin b => simp [callee, hc]
  · rfl

theorem stage (hA : All ap cf lo ops env base ord anc vals Fs) {φ : Inj} {D : Nat → Bool} {j : Nat} {F : AH} {a : Act} {w : World} (I : Inv ap ops env base ord vals Fs φ0 H0 w0 defers D φ j F a w) (hD : Closed ops D)
    {i : Nat} {o : Oper} (ho : ops[i]? = some o) (hi : D i = false) (he : ∀ e ∈ edges o, D e = true) (hc : isCl ap ops .e i = true) : stOf ap ops ord i = j := by
  have hlt : i < ops.length := (List.getElem?_eq_some_iff.1 ho).1
  have h1 : ¬ stOf ap ops ord i < j := fun h => by rw [(I.e i hlt hc).2 h] at hi; cases hi
  rcases Nat.lt_or_ge j (stOf ap ops ord i) with h | h
  · exfalso
    have h2 := stOf_lt ord i (hA.O.all i hlt) hc
    obtain ⟨k, k1, k2, k3⟩ := stOf_ex (ap := ap) (ops := ops) ord hA.O.nodup (stOf ap ops ord i - 1) (by omega)
    have hk := hA.O.lt k k1
    have h3 := hA.O.chain i k hlt hc hk k2 (by omega)
    have h4 := hA.O.reach hD _ i o (Nat.lt_succ_self _) ho he k h3
    have := (I.e k hk k2).1 h4
    omega
  · omega

theorem window (hA : All ap cf lo ops env base ord anc vals Fs) {φ : Inj} {D : Nat → Bool} {j : Nat} {F : AH} {a : Act} {w : World} (I : Inv ap ops env base ord vals Fs φ0 H0 w0 defers D φ j F a w) (hD : Closed ops D)
    {i : Nat} {o : Oper} (ho : ops[i]? = some o) (hi : D i = false) (he : ∀ e ∈ edges o, D e = true) : inWin ap ops ord anc i j = true := by
  unfold inWin
  rw [Bool.and_eq_true]
  refine ⟨List.all_eq_true.2 fun e h => ?_, List.all_eq_true.2 fun e h => ?_⟩
  · cases hc : isCl ap ops .e e with
    | false => rfl
    | true =>
      have h1 := hA.O.reach hD _ i o (Nat.lt_succ_self _) ho he e h
      have hlt : e < ops.length := by
        unfold isCl at hc
        split at hc
        · rename_i h2; exact (List.getElem?_eq_some_iff.1 h2).1
        · cases hc
      simpa using (I.e e hlt hc).1 h1
  · cases hc : isCl ap ops .e e with
    | false => rfl
    | true =>
      have hlt := hA.O.lt e h
      cases hx : (ancOf anc e).contains i with
      | false => rfl
      | true =>
        have hx : i ∈ ancOf anc e := by simpa using hx
        have h2 : ¬ stOf ap ops ord e < j := fun h2 => by
          have h3 := (I.e e hlt hc).2 h2
          have hoe : ops[e]? = some ops[e] := by simp [hlt]
          have := hA.O.reach hD _ e _ (Nat.lt_succ_self _) hoe (hD e _ hoe h3) i hx
          rw [hi] at this; cases this
        simp only [Bool.and_self, Bool.not_true, Bool.false_or, decide_eq_true_eq]
        omega

/-- A block made, in whatever order. -/
theorem made (hA : All ap cf lo ops env base ord anc vals Fs) (hbase : H0.length ≤ base) {φ : Inj} {D : Nat → Bool} {j : Nat} {F : AH} {a : Act} {w : World} (I : Inv ap ops env base ord vals Fs φ0 H0 w0 defers D φ j F a w) (hD : Closed ops D)
    {i : Nat} {o : Oper} (ho : ops[i]? = some o) (hi : D i = false) (hc : cls ap o.op = .a) {A : AB} {Fst : AH} (h1 : Fs[stOf ap ops ord i]? = some Fst) (h2 : Fst[base + i]? = some A)
    (hdead : ∀ (k : Nat) (H : AH), k < stOf ap ops ord i → Fs[k]? = some H → H[base + i]? = some dead0) {v' : Value} {c : Array Value} {e : TypeId} {l : List AV} (hAl : A = .cells l .rw) (hl : LR φ l c 0) (hlen : l.length ≤ c.size)
    (hv : VR (upd φ (base + i) ⟨w.heap.size, 0, c.size⟩) (vals i) v') :
    Inv ap ops env base ord vals Fs φ0 H0 w0 defers (with_ D i) (upd φ (base + i) ⟨w.heap.size, 0, c.size⟩) j F (a.put o.dst v') (w.alloc (.cells c e)) := by
  have hlt : i < ops.length := (List.getElem?_eq_some_iff.1 ho).1
  have hci : isCl ap ops .a i = true := (isCl_iff ho).2 hc
  have hn := I.off i hlt hi
  have hle : φ.le (upd φ (base + i) ⟨w.heap.size, 0, c.size⟩) := fun b q e => by
    unfold upd
    rw [if_neg (fun x => by subst x; rw [hn] at e; cases e)]
    exact e
  have hj : j ≤ stOf ap ops ord i := by
    rcases Nat.lt_or_ge (stOf ap ops ord i) j with h | h
    · exfalso
      obtain ⟨k, k1, k2, k3⟩ := I.cnt _ h
      have h3 := hA.O.allocs i k hlt hci k1 k2 k3
      have hok : ops[k]? = some ops[k] := by simp [k1]
      have h4 := (I.e k k1 k2).2 (by omega)
      have := hA.O.reach hD _ k _ (Nat.lt_succ_self _) hok (hD k _ hok h4) i h3
      rw [hi] at this; cases this
    · exact h
  have hBA : BR (upd φ (base + i) ⟨w.heap.size, 0, c.size⟩) ⟨w.heap.size, 0, c.size⟩ A (.cells c e) := by
    subst hAl
    exact .cells l .rw c e _ rfl (by simpa using hlen) (hl.mono hle) (fun _ => .inl rfl)
  have hB0 : BR (upd φ (base + i) ⟨w.heap.size, 0, c.size⟩) ⟨w.heap.size, 0, c.size⟩ dead0 (.cells c e) :=
    .cells [] .dead c e _ rfl (by simp) (fun i a h => by simp at h) (fun h => by cases h)
  have hh : (w.alloc (.cells c e)).heap = w.heap.push (.cells c e) := rfl
  have hsim : SimW φ0 H0 w0 (upd φ (base + i) ⟨w.heap.size, 0, c.size⟩) F (w.alloc (.cells c e)) := by
    refine ⟨?_, I.sim.str.trans ⟨rfl, rfl, rfl⟩⟩
    rw [hh]
    rcases Nat.lt_or_ge j (stOf ap ops ord i) with h | h
    · exact I.sim.grow (by omega) hn (hdead j F h I.hF) hB0
    · have : j = stOf ap ops ord i := by omega
      subst this
      have hF := I.hF
      rw [h1] at hF
      cases hF
      exact I.sim.grow (by omega) hn h2 hBA
  have other : ∀ s, s ≠ i → upd φ (base + i) ⟨w.heap.size, 0, c.size⟩ (base + s) = φ (base + s) := fun s hs => by unfold upd; rw [if_neg (by omega)]
  refine ⟨I.hF, fun k hk hck => ?_, I.cnt, hsim, fun s hs hd => ?_, fun s hs hcs hd hjs => ?_, I.len, env_put hA.O (I.env.mono hle) ho hv, ?_⟩
  · have hki : k ≠ i := fun e => by
      subst e
      have := (isCl_iff ho).1 hck
      rw [hc] at this; cases this
    simpa [with_, hki] using I.e k hk hck
  · have hsi : s ≠ i := fun e => by subst e; simp [with_] at hd
    rw [other s hsi]
    exact I.off s hs (by simpa [with_, hsi] using hd)
  · by_cases hsi : s = i
    · subst hsi
      right
      refine ⟨⟨w.heap.size, 0, c.size⟩, A, .cells c e, Fst, by simp [upd], by rw [hh]; simp, hBA, h1, h2, I.sim.size, hdead j F hjs I.hF, fun b p' e hb => ?_⟩
      unfold upd at e
      rw [if_neg hb] at e
      have := I.sim.rel.lt2 e
      simp only
      omega
    · rw [other s hsi]
      rcases I.early s hs hcs (by simpa [with_, hsi] using hd) hjs with h | ⟨p, A1, O, F', g1, g2, g3, g4, g5, g6, g7, g8⟩
      · exact .inl h
      · right
        have hp := I.sim.rel.lt2 g1
        refine ⟨p, A1, O, F', g1, by rw [hh, Array.getElem?_push, if_neg (by omega)]; exact g2, g3.mono hle, g4, g5, g6, g7, fun b p' e hb => ?_⟩
        unfold upd at e
        split at e
        · cases e; simp only; omega
        · exact g8 b p' e hb
  · rw [← I.defs]; cases o.dst <;> rfl

/-- One operation, whichever is drawn. -/
theorem drawn_step (hg : TyAgree P ap) (hcf : CallOk P cf) {ro : Option Nat} {n : Nat} (hA : All ap cf lo ops env base ord anc vals Fs) (hbase : H0.length ≤ base) {φ : Inj} {D : Nat → Bool} {j : Nat} {F : AH} {a : Act} {w : World}
    (I : Inv ap ops env base ord vals Fs φ0 H0 w0 defers D φ j F a w) (hD : Closed ops D)
    {i : Nat} {o : Oper} (ho : ops[i]? = some o) (hi : D i = false) (he : ∀ e ∈ edges o, D e = true) {K : Act → World → Prop} {Q : Exit → Act → World → Prop}
    (hK : ∀ φ' j' F' a' w', Inv ap ops env base ord vals Fs φ0 H0 w0 defers (with_ D i) φ' j' F' a' w' → K a' w') : wpOpIn (W ro) n P ops.toArray Q i K a w := by
  have hlt : i < ops.length := (List.getElem?_eq_some_iff.1 ho).1
  obtain ⟨o', t, f⟩ := hA.facts i hlt
  have hoo := f.ho
  rw [ho] at hoo
  cases hoo
  have hes := env_sees hA.O hD I.env ho hi he
  have hw := wanted_sound (ops := ops.toArray) hes f.ht
  have hn := I.off i hlt hi
  have nE : cls ap o.op ≠ .e → isCl ap ops .e i = false := fun h => by
    cases hx : isCl ap ops .e i with
    | false => rfl
    | true => exact absurd ((isCl_iff ho).1 hx) h
  have nA : cls ap o.op ≠ .a → isCl ap ops .a i = false := fun h => by
    cases hx : isCl ap ops .a i with
    | false => rfl
    | true => exact absurd ((isCl_iff ho).1 hx) h
  unfold wpOpIn
  have ho' : ops.toArray[i]? = some o := by simpa using ho
  rw [ho']
  simp only
  rw [hw]
  cases t with
  | false =>
    simp only [Bool.false_eq_true, if_false]
    refine ⟨fun _ _ => trivial, ?_⟩
    have hv : VR φ (vals i) undef := by rw [f.no rfl]; exact gap_vr
    by_cases hc : cls ap o.op = .e
    · have hce := (isCl_iff ho).2 hc
      have hst := stage hA I hD ho hi he hce
      obtain ⟨F1, F', B, k1, k2, k3, k4, k5, k6⟩ := f.e hc
      have hF := I.hF
      rw [hst] at k1 k2 k6
      rw [hF] at k1
      cases k1
      have hB := k4 rfl
      subst hB
      exact hK _ _ _ _ _ (advance hA I ho hce hst hi (.refl I.sim.rel) hv k2 k5 k6)
    · exact hK _ _ _ _ _ (stay hA I ho (nE hc) (.inr hn) (.refl I.sim.rel) hv)
  | true =>
    simp only [if_true]
    have quiet : (cls ap o.op = .q ∨ cls ap o.op = .h) → aop ap lo (envM ops env vals o) F o.op = some (vals i, F) → o.wpIn (W ro) n P a w K Q := fun hc h => by
      have h1 : cls ap o.op ≠ .e := by rcases hc with h | h <;> rw [h] <;> simp
      have h2 : cls ap o.op ≠ .a := by rcases hc with h | h <;> rw [h] <;> simp
      refine sound_oper hg hcf I.sim.rel hes (by rw [aoper_plain h1]; exact h) ?_
      intro v' φ' w' hs hv
      exact hK _ _ _ _ _ (stay hA I ho (nE h1) (.inl (nA h2)) hs hv)
    cases hc : cls ap o.op with
    | q =>
      obtain ⟨H, r, k1, k2⟩ := f.q rfl (.inl hc)
      exact quiet (.inl hc) (by rw [aop_free hc k1 F, k2])
    | h =>
      obtain ⟨r, k1, k2⟩ := hA.win i j o F ho hc f.ht I.hF (window hA I hD ho hi he)
      have k3 := aop_same (.inr hc) k1
      exact quiet (.inr hc) (by rw [k1, ← k2, ← k3])
    | e =>
      have hce := (isCl_iff ho).2 hc
      have hst := stage hA I hD ho hi he hce
      obtain ⟨F1, F', B, k1, k2, k3, k4, k5, k6⟩ := f.e hc
      have hF := I.hF
      rw [hst] at k1 k2 k6
      rw [hF] at k1
      cases k1
      refine sound_oper hg hcf I.sim.rel hes (k3 rfl) ?_
      intro v' φ' w' hs hv
      exact hK _ _ _ _ _ (advance hA I ho hce hst hi hs hv k2 k5 k6)
    | a =>
      obtain ⟨r, A, Fst, k1, k2, k3, k4, k5⟩ := f.a rfl hc
      obtain ⟨v', c, e, g1, ⟨l, g2, g3, g4⟩, g5⟩ := raw_alloc (w := w) hg hes hc k1 k3
      refine ⟨fun _ _ => trivial, ?_⟩
      rw [Oper.semAt_eq _ _ _ (by intro c hop; rw [hop] at hc; cases hc), g1]
      exact hK _ _ _ _ _ (made hA hbase I hD ho hi hc k4 k5 (f.dead hc) g2 g3 g4 (by rw [← k2]; exact g5 _ (by simp [upd])))

theorem with_listed {listed : Array Bool} {i : Nat} (h : i < listed.size) : (fun k => (listed.setIfInBounds i true).getD k false) = with_ (fun k => listed.getD k false) i := by
  funext k
  unfold with_
  by_cases hk : k = i
  · subst hk; simp [h]
  · rw [if_neg hk, getD_set_ne _ (fun e => hk e.symm)]

theorem edges_mem {o : Oper} {j : Nat} : j ∈ edges o ↔ ∃ e ∈ o.after, Region.binds .any e = true ∧ e.on = j := by
  unfold edges
  rw [List.mem_filterMap]
  constructor
  · rintro ⟨e, h1, h2⟩
    split at h2
    · rename_i h3; cases h2; exact ⟨e, by simpa using h1, h3, rfl⟩
    · cases h2
  · rintro ⟨e, h1, h2, h3⟩
    exact ⟨e, by simpa using h1, by rw [if_pos h2, h3]⟩

theorem draw_any (hg : TyAgree P ap) (hcf : CallOk P cf) {ro : Option Nat} {n : Nat} (hA : All ap cf lo ops env base ord anc vals Fs) (hbase : H0.length ≤ base) {Q : Exit → Act → World → Prop}
    (hQ : ∀ φ j F a w D, Inv ap ops env base ord vals Fs φ0 H0 w0 defers D φ j F a w → (∀ i, i < ops.length → D i = true) → Q .normal a w) :
    ∀ (fuel : Nat) (listed : Array Bool) (l : List Nat) (φ : Inj) (j : Nat) (F : AH) (a : Act) (w : World), listed.size = ops.length → l.length ≤ fuel → (∀ i, i < ops.length → listed.getD i false = false → i ∈ l) →
      Closed ops (fun i => listed.getD i false) → Inv ap ops env base ord vals Fs φ0 H0 w0 defers (fun i => listed.getD i false) φ j F a w → wpAnyIn (W ro) n P .any ops.toArray Q fuel listed a w := by
  have done : ∀ (listed : Array Bool), listed.size = ops.length → Region.ready .any ops.toArray listed = [] → ∀ (m i : Nat), ord.idxOf i < m → i < ops.length → listed.getD i false = true := by
    intro listed hs hr m
    induction m with
    | zero => intro i h; omega
    | succ m ih =>
      intro i hm hi
      cases hx : listed.getD i false with
      | true => rfl
      | false =>
        exfalso
        have ho : ops[i]? = some ops[i] := by simp [hi]
        have : i ∈ Region.ready .any ops.toArray listed := by
          rw [mem_ready]
          refine ⟨?_, ops[i], by simp, fun e h1 h2 => ?_⟩
          · have : i < listed.size := by omega
            simp [this] at hx ⊢; exact hx
          · obtain ⟨g1, g2⟩ := hA.O.edge i _ ho e.on (edges_mem.2 ⟨e, h1, h2, rfl⟩)
            exact ih e.on (by omega) g1
        rw [hr] at this; cases this
  intro fuel
  induction fuel with
  | zero =>
    intro listed l φ j F a w hs hl hm hD I
    have hall : ∀ i, i < ops.length → listed.getD i false = true := fun i hi => by
      cases hx : listed.getD i false with
      | true => rfl
      | false =>
        have := hm i hi hx
        cases l with
        | nil => cases this
        | cons => simp at hl
    refine ⟨?_, hQ _ _ _ _ _ _ I hall⟩
    cases hr : Region.ready .any ops.toArray listed with
    | nil => rfl
    | cons x xs =>
      exfalso
      have hx : x ∈ Region.ready .any ops.toArray listed := by rw [hr]; simp
      obtain ⟨h1, o, h2, _⟩ := mem_ready.1 hx
      have hlt : x < ops.length := by
        have := (Array.getElem?_eq_some_iff.1 h2).1
        simpa using this
      have h3 := hall x hlt
      have : x < listed.size := by omega
      simp [this] at h1 h3
      rw [h1] at h3; cases h3
  | succ fuel ih =>
    intro listed l φ j F a w hs hl hm hD I
    refine ⟨fun hr => hQ _ _ _ _ _ _ I fun i hi => done listed hs hr _ i (Nat.lt_succ_self _) hi, fun i hi => ?_⟩
    obtain ⟨h1, o, h2, h3⟩ := mem_ready.1 hi
    have hlt : i < ops.length := by
      have := (Array.getElem?_eq_some_iff.1 h2).1
      simpa using this
    have hil : i < listed.size := by omega
    have ho : ops[i]? = some o := by simpa using h2
    have hDi : listed.getD i false = false := by simp [hil] at h1 ⊢; exact h1
    have hedge : ∀ e ∈ edges o, listed.getD e false = true := fun e he => by
      obtain ⟨e', g1, g2, rfl⟩ := edges_mem.1 he
      exact h3 e' g1 g2
    refine drawn_step hg hcf hA hbase I hD ho hDi hedge ?_
    intro φ' j' F' a' w' I'
    have hil' := hm i hlt hDi
    refine ih (listed.setIfInBounds i true) (l.erase i) φ' j' F' a' w' (by simpa using hs) (by rw [List.length_erase_of_mem hil']; omega) (fun k hk hf => ?_) ?_ ?_
    · have hki : k ≠ i := fun e => by subst e; simp [hil] at hf
      rw [getD_set_ne _ (fun e => hki e.symm)] at hf
      exact (List.mem_erase_of_ne hki).2 (hm k hk hf)
    · rw [with_listed hil]
      intro k p hp hk e he
      unfold with_ at hk ⊢
      split
      · rfl
      · split at hk
        · rename_i hki
          subst hki
          rw [ho] at hp
          cases hp
          exact hedge e he
        · exact hD k p hp hk e he
    · rw [with_listed hil]; exact I'
end

theorem rep_false (n i : Nat) : (Array.replicate n false).getD i false = false := by
  rcases Nat.lt_or_ge i n with h | h
  · simp [h]
  · simp [Array.getElem?_eq_none, h]

/-- A region whose order is drawn. -/
theorem sound_draw {P : Program} {ap : AP} (hm : P.follows .mixedOrders = true) (hg : TyAgree P ap) {cf : CallF} (hcf : CallOk P cf) {ro : Option Nat} {n lo id : Nat} {ops : Array Oper} {ord : List Nat} {anc : List (List Nat)} {env env' : List AV} {H H' : AH} {φ : Inj} {a : Act} {w : World}
    (h : evDraw ap cf lo ops ord anc env H = some (env', H')) (hr : Rel φ H w.heap) (he : ER φ env a.tmps) {Q : Exit → Act → World → Prop}
    (hQ : ∀ φ' a' w', SimW φ H w φ' H' w' → ER φ' env' a'.tmps → a'.defers = a.defers → Q .normal a' w') : (Code.region id ops true).wpIn (W ro) n P Q a w := by
  unfold evDraw at h
  split at h
  · rename_i hok
    have hO := ordP_of hok
    replace h := Option.bind_eq_some_iff.1 h
    obtain ⟨sf, h1, h⟩ := h
    split at h
    · rename_i hwin
      cases h
      have T := trace hO ord [] ⟨fun _ => .undef, H ++ List.replicate ops.size dead0, []⟩ sf rfl rfl h1
      obtain ⟨F, c1, c2, c3⟩ := T.cur
      have hA : All ap cf lo ops.toList env H.length ord anc sf.vals (sf.prev ++ [sf.cur]) := by
        refine ⟨hO, fun i hi => T.facts i (hO.all i hi), fun i j o F ho hc ht hF hin => ?_⟩
        have hi : i < ops.toList.length := (List.getElem?_eq_some_iff.1 ho).1
        unfold winOk at hwin
        have h2 := List.all_eq_true.1 hwin i (hO.all i hi)
        rw [ho] at h2
        simp only at h2
        rw [if_pos (by rw [(isCl_iff ho).2 hc, ht]; rfl)] at h2
        have h3 := List.all_eq_true.1 h2 (F, j) (List.mem_zipIdx_iff_getElem?.2 hF)
        simp only [hin, Bool.not_true, Bool.false_or] at h3
        split at h3
        · rename_i r hr2
          exact ⟨r, hr2, sameV_eq h3⟩
        · cases h3
      have hlenF : F.length = H.length + ops.size := by rw [c2]; simp
      have hget : ∀ b, b < H.length → F[b]? = H[b]? := fun b hb => by
        rw [c3 b fun i _ _ _ => by omega]
        simp only
        rw [List.getElem?_append_left hb]
      refine wpIn_region_any hm ?_
      have key := draw_any (P := P) (ap := ap) (ro := ro) (n := n) (φ0 := φ) (H0 := H) (w0 := w) (defers := a.defers) hg hcf hA (Nat.le_refl _) (Q := Q) (fun φ' j F a' w' D I hall => ?_) ops.size (Array.replicate ops.size false) (List.range ops.size) φ 0 F a { w with drawn := w.drawn + 1 } (by simp) (by simp) (fun i hi _ => by simpa using hi) (fun i o _ h => ?_) ?_
      · simpa using key
      · -- the end
        have hj : j = nE ap ops.toList ord := by
          rcases Nat.lt_trichotomy j (nE ap ops.toList ord) with h2 | h2 | h2
          · obtain ⟨k, k1, k2, k3⟩ := stOf_ex ord hO.nodup j h2
            have hk := hO.lt k k1
            have := (I.e k hk k2).1 (hall k hk)
            omega
          · exact h2
          · obtain ⟨k, k1, k2, k3⟩ := I.cnt _ h2
            have := stOf_lt (ap := ap) (ops := ops.toList) ord k (hO.all k k1) k2
            omega
        have hF := I.hF
        have hl := T.len
        simp only [List.length_nil, Nat.zero_add] at hl
        rw [hj, ← hl] at hF
        simp at hF
        subst hF
        refine hQ φ' a' w' I.sim ?_ I.defs
        have : envF ops.toList env sf.vals (fun _ => true) = envF ops.toList env sf.vals D := by
          unfold envF
          apply List.ext_getElem?
          intro t
          simp only [List.getElem?_mapIdx]
          cases env[t]? with
          | none => rfl
          | some x =>
            simp only [Option.map_some]
            cases hw : writer ops.toList t with
            | none => rfl
            | some k =>
              unfold writer at hw
              obtain ⟨hlt, _⟩ := List.findIdx?_eq_some_iff_getElem.1 hw
              simp [hall k hlt]
        rw [this]
        exact I.env
      · have hf : (Array.replicate ops.size false).getD i false = false := rep_false _ _
        simp only [hf] at h
        cases h
      · have hf : (fun i => (Array.replicate ops.size false).getD i false) = fun _ => false := by
          funext i
          exact rep_false _ _
        rw [hf]
        refine ⟨c1, fun i _ _ => by simp, fun m hm => by omega, ?_, fun s hs _ => ?_, fun s _ _ h => (by cases h), (by rw [hlenF]; simp), ?_, rfl⟩
        · refine ⟨⟨Inj.le_refl φ, fun _ _ e => .inl e, ⟨fun b p e => ?_, fun b p A b' p' A' e1 e2 e3 e4 e5 e6 e7 => ?_⟩, by rw [hlenF]; omega, Nat.le_refl _, fun _ _ _ => rfl, fun b p A e1 e2 e3 => .inr ⟨b, p, A, e1, ?_, e3, rfl⟩, fun _ _ e => .inl e⟩, ⟨rfl, rfl, rfl⟩⟩
          · obtain ⟨A, O, g1, g2, g3⟩ := hr.blk b p e
            exact ⟨A, O, by rw [hget b (hr.lt e)]; exact g1, g2, g3⟩
          · rw [hget _ (hr.lt e1)] at e2
            rw [hget _ (hr.lt e4)] at e5
            exact hr.excl b p A b' p' A' e1 e2 e3 e4 e5 e6 e7
          · rw [hget _ (hr.lt e1)] at e2; exact e2
        · cases hx : φ (H.length + s) with
          | none => rfl
          | some p => have := hr.lt hx; omega
        · unfold envF
          refine er_mapIdx (fun t v u e1 e2 => ?_) he.1
          have h3 := he.2 t v u e1 e2
          cases writer ops.toList t with
          | none => exact h3
          | some j => simpa using h3
    · cases h
  · cases h
end Go.Ab
