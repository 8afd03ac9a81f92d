import Derived.Test.YtobfodegdbfhdaaGR121
import Derived.Below
import Derived.ChangeArms
import Derived.RowKit
import Derived.ChangeMaps5
import Derived.ChangeShapes
import Derived.WideShapes
import Derived.Lib.Overlaps
section
set_option linter.unusedVariables false
set_option linter.unusedSimpArgs false
namespace Go.Ab
section
variable {P : Program} {ap : AP} {cf : CallF} {lo : Nat} {ops : List Oper} {env : List AV} {base : Nat} {ord : List Nat} {anc : List (List Nat)} {vals : Nat → AV} {Fs : List AH} {φ0 : Inj} {H0 : AH} {w0 : World} {defers : List Deferred}

/-- A block that was foreseen comes to be. -/
theorem Sim.grow {hp0 : Array Obj} {φ : Inj} {F : AH} {hp : Array Obj} (s : Sim φ0 H0 hp0 φ F hp) {b0 : Nat} {A : AB} {O : Obj} {d R : Nat} (hb : H0.length ≤ b0) (hn : φ b0 = none) (hA : F[b0]? = some A)
    (hB : BR (upd φ b0 ⟨hp.size, d, R⟩) ⟨hp.size, d, R⟩ A O) : Sim φ0 H0 hp0 (upd φ b0 ⟨hp.size, d, R⟩) F (hp.push O) := by
  have hle : φ.le (upd φ b0 ⟨hp.size, d, R⟩) := fun b q e => by
    unfold upd
    rw [if_neg (fun x => by subst x; rw [hn] at e; cases e)]
    exact e
  refine ⟨Inj.le_trans s.ext hle, fun b p e => ?_, ⟨fun b p e => ?_, fun b p A1 b' p' A1' e1 e2 e3 e4 e5 e6 e7 => ?_⟩, s.len, ?_, fun r hr hno => ?_, fun b p A1 e1 e2 e3 => ?_, fun b p e => ?_⟩
  · unfold upd at e
    split at e
    · rename_i h; subst h; exact .inr hb
    · exact s.new b p e
  · unfold upd at e
    split at e
    · rename_i h; subst h; cases e
      exact ⟨A, O, hA, by simp, hB⟩
    · obtain ⟨A1, O1, h1, h2, h3⟩ := s.rel.blk b p e
      have hl2 := s.rel.lt2 e
      exact ⟨A1, O1, h1, by rw [Array.getElem?_push, if_neg (by omega)]; exact h2, h3.mono hle⟩
  · unfold upd at e1 e4
    split at e1
    · cases e1
      split at e4
      · omega
      · have := s.rel.lt2 e4
        simp only at e7
        omega
    · split at e4
      · cases e4
        have := s.rel.lt2 e1
        simp only at e7
        omega
      · exact s.rel.excl b p A1 b' p' A1' e1 e2 e3 e4 e5 e6 e7
  · have := s.size; simp; omega
  · have := s.size
    rw [Array.getElem?_push, if_neg (by omega)]; exact s.frame r hr hno
  · unfold upd at e1
    split at e1
    · cases e1; exact .inl s.size
    · exact s.img b p A1 e1 e2 e3
  · unfold upd at e
    split at e
    · cases e; exact .inr (.inl s.size)
    · exact s.img2 b p e

theorem aoper_plain {m : List AV} {F : AH} {op : Op} (h : cls ap op ≠ .e) : aoper ap cf lo m F op = aop ap lo m F op := by
  unfold aoper
  split
  · rename_i c
    cases hc : c.callee with
    | value f => exfalso; apply h; simp [cls, hc]
    | invoke a b => simp [callee, hc]
    | builtin b => simp [callee, hc]
  · rfl

theorem stage (hA : All ap cf lo ops env base ord anc vals Fs) {φ : Inj} {D : Nat → Bool} {j : Nat} {F : AH} {a : Act} {w : World} (I : Inv ap ops env base ord vals Fs φ0 H0 w0 defers D φ j F a w) (hD : Closed ops D)
    {i : Nat} {o : Oper} (ho : ops[i]? = some o) (hi : D i = false) (he : ∀ e ∈ edges o, D e = true) (hc : isCl ap ops .e i = true) : stOf ap ops ord i = j := by
  have hlt : i < ops.length := (List.getElem?_eq_some_iff.1 ho).1
  have h1 : ¬ stOf ap ops ord i < j := fun h => by rw [(I.e i hlt hc).2 h] at hi; cases hi
  rcases Nat.lt_or_ge j (stOf ap ops ord i) with h | h
  · exfalso
    have h2 := stOf_lt ord i (hA.O.all i hlt) hc
    obtain ⟨k, k1, k2, k3⟩ := stOf_ex (ap := ap) (ops := ops) ord hA.O.nodup (stOf ap ops ord i - 1) (by omega)
    have hk := hA.O.lt k k1
    have h3 := hA.O.chain i k hlt hc hk k2 (by omega)
    have h4 := hA.O.reach hD _ i o (Nat.lt_succ_self _) ho he k h3
    have := (I.e k hk k2).1 h4
    omega
  · omega

theorem window (hA : All ap cf lo ops env base ord anc vals Fs) {φ : Inj} {D : Nat → Bool} {j : Nat} {F : AH} {a : Act} {w : World} (I : Inv ap ops env base ord vals Fs φ0 H0 w0 defers D φ j F a w) (hD : Closed ops D)
    {i : Nat} {o : Oper} (ho : ops[i]? = some o) (hi : D i = false) (he : ∀ e ∈ edges o, D e = true) : inWin ap ops ord anc i j = true := by
  unfold inWin
  rw [Bool.and_eq_true]
  refine ⟨List.all_eq_true.2 fun e h => ?_, List.all_eq_true.2 fun e h => ?_⟩
  · cases hc : isCl ap ops .e e with
    | false => rfl
    | true =>
      have h1 := hA.O.reach hD _ i o (Nat.lt_succ_self _) ho he e h
      have hlt : e < ops.length := by
        unfold isCl at hc
        split at hc
        · rename_i h2; exact (List.getElem?_eq_some_iff.1 h2).1
        · cases hc
      simpa using (I.e e hlt hc).1 h1
  · cases hc : isCl ap ops .e e with
    | false => rfl
    | true =>
      have hlt := hA.O.lt e h
      cases hx : (ancOf anc e).contains i with
      | false => rfl
      | true =>
        have hx : i ∈ ancOf anc e := by simpa using hx
        have h2 : ¬ stOf ap ops ord e < j := fun h2 => by
          have h3 := (I.e e hlt hc).2 h2
          have hoe : ops[e]? = some ops[e] := by simp [hlt]
          have := hA.O.reach hD _ e _ (Nat.lt_succ_self _) hoe (hD e _ hoe h3) i hx
          rw [hi] at this; cases this
        simp only [Bool.and_self, Bool.not_true, Bool.false_or, decide_eq_true_eq]
        omega

/-- A block made, in whatever order. -/
theorem made (hA : All ap cf lo ops env base ord anc vals Fs) (hbase : H0.length ≤ base) {φ : Inj} {D : Nat → Bool} {j : Nat} {F : AH} {a : Act} {w : World} (I : Inv ap ops env base ord vals Fs φ0 H0 w0 defers D φ j F a w) (hD : Closed ops D)
    {i : Nat} {o : Oper} (ho : ops[i]? = some o) (hi : D i = false) (hc : cls ap o.op = .a) {A : AB} {Fst : AH} (h1 : Fs[stOf ap ops ord i]? = some Fst) (h2 : Fst[base + i]? = some A)
    (hdead : ∀ (k : Nat) (H : AH), k < stOf ap ops ord i → Fs[k]? = some H → H[base + i]? = some dead0) {v' : Value} {c : Array Value} {e : TypeId} {l : List AV} {md : Md} (hAl : A = .cells l md) (hl : LR φ l c 0) (hlen : l.length ≤ c.size)
    (hv : VR (upd φ (base + i) ⟨w.heap.size, 0, c.size⟩) (vals i) v') :
    Inv ap ops env base ord vals Fs φ0 H0 w0 defers (with_ D i) (upd φ (base + i) ⟨w.heap.size, 0, c.size⟩) j F (a.put o.dst v') (w.alloc (.cells c e)) := by
  have hlt : i < ops.length := (List.getElem?_eq_some_iff.1 ho).1
  have hci : isCl ap ops .a i = true := (isCl_iff ho).2 hc
  have hn := I.off i hlt hi
  have hle : φ.le (upd φ (base + i) ⟨w.heap.size, 0, c.size⟩) := fun b q e => by
    unfold upd
    rw [if_neg (fun x => by subst x; rw [hn] at e; cases e)]
    exact e
  have hj : j ≤ stOf ap ops ord i := by
    rcases Nat.lt_or_ge (stOf ap ops ord i) j with h | h
    · exfalso
      obtain ⟨k, k1, k2, k3⟩ := I.cnt _ h
      have h3 := hA.O.allocs i k hlt hci k1 k2 k3
      have hok : ops[k]? = some ops[k] := by simp [k1]
      have h4 := (I.e k k1 k2).2 (by omega)
      have := hA.O.reach hD _ k _ (Nat.lt_succ_self _) hok (hD k _ hok h4) i h3
      rw [hi] at this; cases this
    · exact h
  have hBA : BR (upd φ (base + i) ⟨w.heap.size, 0, c.size⟩) ⟨w.heap.size, 0, c.size⟩ A (.cells c e) := by
    subst hAl
    exact .cells l md c e _ rfl (by simpa using hlen) (hl.mono hle) (fun _ => .inl rfl) (fun _ => rfl)
  have hB0 : BR (upd φ (base + i) ⟨w.heap.size, 0, c.size⟩) ⟨w.heap.size, 0, c.size⟩ dead0 (.cells c e) :=
    .cells [] .dead c e _ rfl (by simp) (fun i a h => by simp at h) (fun h => by cases h) (fun h => by cases h)
  have hh : (w.alloc (.cells c e)).heap = w.heap.push (.cells c e) := rfl
  have hsim : SimW φ0 H0 w0 (upd φ (base + i) ⟨w.heap.size, 0, c.size⟩) F (w.alloc (.cells c e)) := by
    refine ⟨?_, I.sim.str.trans ⟨rfl, rfl, rfl⟩⟩
    rw [hh]
    rcases Nat.lt_or_ge j (stOf ap ops ord i) with h | h
    · exact I.sim.grow (by omega) hn (hdead j F h I.hF) hB0
    · have : j = stOf ap ops ord i := by omega
      subst this
      have hF := I.hF
      rw [h1] at hF
      cases hF
      exact I.sim.grow (by omega) hn h2 hBA
  have other : ∀ s, s ≠ i → upd φ (base + i) ⟨w.heap.size, 0, c.size⟩ (base + s) = φ (base + s) := fun s hs => by unfold upd; rw [if_neg (by omega)]
  refine ⟨I.hF, fun k hk hck => ?_, I.cnt, hsim, fun s hs hd => ?_, fun s hs hcs hd hjs => ?_, I.len, env_put hA.O (I.env.mono hle) ho hv, ?_⟩
  · have hki : k ≠ i := fun e => by
      subst e
      have := (isCl_iff ho).1 hck
      rw [hc] at this; cases this
    simpa [with_, hki] using I.e k hk hck
  · have hsi : s ≠ i := fun e => by subst e; simp [with_] at hd
    rw [other s hsi]
    exact I.off s hs (by simpa [with_, hsi] using hd)
  · by_cases hsi : s = i
    · subst hsi
      right
      refine ⟨⟨w.heap.size, 0, c.size⟩, A, .cells c e, Fst, by simp [upd], by rw [hh]; simp, hBA, h1, h2, I.sim.size, hdead j F hjs I.hF, fun b p' e hb => ?_⟩
      unfold upd at e
      rw [if_neg hb] at e
      have := I.sim.rel.lt2 e
      simp only
      omega
    · rw [other s hsi]
      rcases I.early s hs hcs (by simpa [with_, hsi] using hd) hjs with h | ⟨p, A1, O, F', g1, g2, g3, g4, g5, g6, g7, g8⟩
      · exact .inl h
      · right
        have hp := I.sim.rel.lt2 g1
        refine ⟨p, A1, O, F', g1, by rw [hh, Array.getElem?_push, if_neg (by omega)]; exact g2, g3.mono hle, g4, g5, g6, g7, fun b p' e hb => ?_⟩
        unfold upd at e
        split at e
        · cases e; simp only; omega
        · exact g8 b p' e hb
  · rw [← I.defs]; cases o.dst <;> rfl

/-- One operation, whichever is drawn. -/
theorem drawn_step (hg : TyAgree P ap) (hcf : CallOk P cf) {ro : Option Nat} {n : Nat} (hA : All ap cf lo ops env base ord anc vals Fs) (hbase : H0.length ≤ base) {φ : Inj} {D : Nat → Bool} {j : Nat} {F : AH} {a : Act} {w : World}
    (I : Inv ap ops env base ord vals Fs φ0 H0 w0 defers D φ j F a w) (hD : Closed ops D)
    {i : Nat} {o : Oper} (ho : ops[i]? = some o) (hi : D i = false) (he : ∀ e ∈ edges o, D e = true) {K : Act → World → Prop} {Q : Exit → Act → World → Prop}
    (hK : ∀ φ' j' F' a' w', Inv ap ops env base ord vals Fs φ0 H0 w0 defers (with_ D i) φ' j' F' a' w' → K a' w') : wpOpIn (W ro) n P ops.toArray Q i K a w := by
  have hlt : i < ops.length := (List.getElem?_eq_some_iff.1 ho).1
  obtain ⟨o', t, f⟩ := hA.facts i hlt
  have hoo := f.ho
  rw [ho] at hoo
  cases hoo
  have hes := env_sees hA.O hD I.env ho hi he
  have hw := wanted_sound (ops := ops.toArray) hes f.ht
  have hn := I.off i hlt hi
  have nE : cls ap o.op ≠ .e → isCl ap ops .e i = false := fun h => by
    cases hx : isCl ap ops .e i with
    | false => rfl
    | true => exact absurd ((isCl_iff ho).1 hx) h
  have nA : cls ap o.op ≠ .a → isCl ap ops .a i = false := fun h => by
    cases hx : isCl ap ops .a i with
    | false => rfl
    | true => exact absurd ((isCl_iff ho).1 hx) h
  unfold wpOpIn
  have ho' : ops.toArray[i]? = some o := by simpa using ho
  rw [ho']
  simp only
  rw [hw]
  cases t with
  | false =>
    simp only [Bool.false_eq_true, if_false]
    refine ⟨fun _ _ => trivial, ?_⟩
    have hv : VR φ (vals i) undef := by rw [f.no rfl]; exact gap_vr
    by_cases hc : cls ap o.op = .e
    · have hce := (isCl_iff ho).2 hc
      have hst := stage hA I hD ho hi he hce
      obtain ⟨F1, F', B, k1, k2, k3, k4, k5, k6⟩ := f.e hc
      have hF := I.hF
      rw [hst] at k1 k2 k6
      rw [hF] at k1
      cases k1
      have hB := k4 rfl
      subst hB
      exact hK _ _ _ _ _ (advance hA I ho hce hst hi (.refl I.sim.rel) hv k2 k5 k6)
    · exact hK _ _ _ _ _ (stay hA I ho (nE hc) (.inr hn) (.refl I.sim.rel) hv)
  | true =>
    simp only [if_true]
    have quiet : (cls ap o.op = .q ∨ cls ap o.op = .h) → aop ap lo (envM ops env vals o) F o.op = some (vals i, F) → o.wpIn (W ro) n P a w K Q := fun hc h => by
      have h1 : cls ap o.op ≠ .e := by rcases hc with h | h <;> rw [h] <;> simp
      have h2 : cls ap o.op ≠ .a := by rcases hc with h | h <;> rw [h] <;> simp
      refine sound_oper hg hcf I.sim.rel hes (by rw [aoper_plain h1]; exact h) ?_
      intro v' φ' w' hs hv
      exact hK _ _ _ _ _ (stay hA I ho (nE h1) (.inl (nA h2)) hs hv)
    cases hc : cls ap o.op with
    | q =>
      obtain ⟨H, r, k1, k2⟩ := f.q rfl (.inl hc)
      exact quiet (.inl hc) (by rw [aop_free hc k1 F, k2])
    | h =>
      obtain ⟨r, k1, k2⟩ := hA.win i j o F ho hc f.ht I.hF (window hA I hD ho hi he)
      have k3 := aop_same (.inr hc) k1
      exact quiet (.inr hc) (by rw [k1, ← k2, ← k3])
    | e =>
      have hce := (isCl_iff ho).2 hc
      have hst := stage hA I hD ho hi he hce
      obtain ⟨F1, F', B, k1, k2, k3, k4, k5, k6⟩ := f.e hc
      have hF := I.hF
      rw [hst] at k1 k2 k6
      rw [hF] at k1
      cases k1
      refine sound_oper hg hcf I.sim.rel hes (k3 rfl) ?_
      intro v' φ' w' hs hv
      exact hK _ _ _ _ _ (advance hA I ho hce hst hi hs hv k2 k5 k6)
    | a =>
      obtain ⟨r, A, Fst, k1, k2, k3, k4, k5⟩ := f.a rfl hc
      obtain ⟨v', c, e, g1, ⟨l, md, g2, g3, g4⟩, g5⟩ := raw_alloc (w := w) hg hes hc k1 k3
      refine ⟨fun _ _ => trivial, ?_⟩
      rw [Oper.semAt_eq _ _ _ (by intro c hop; rw [hop] at hc; cases hc), g1]
      exact hK _ _ _ _ _ (made hA hbase I hD ho hi hc k4 k5 (f.dead hc) g2 g3 g4 (by rw [← k2]; exact g5 _ (by simp [upd])))

theorem with_listed {listed : Array Bool} {i : Nat} (h : i < listed.size) : (fun k => (listed.setIfInBounds i true).getD k false) = with_ (fun k => listed.getD k false) i := by
  funext k
  unfold with_
  by_cases hk : k = i
  · subst hk; simp [h]
  · rw [if_neg hk, getD_set_ne _ (fun e => hk e.symm)]

theorem edges_mem {o : Oper} {j : Nat} : j ∈ edges o ↔ ∃ e ∈ o.after, Region.binds .any e = true ∧ e.on = j := by
  unfold edges
  rw [List.mem_filterMap]
  constructor
  · rintro ⟨e, h1, h2⟩
    split at h2
    · rename_i h3; cases h2; exact ⟨e, by simpa using h1, h3, rfl⟩
    · cases h2
  · rintro ⟨e, h1, h2, h3⟩
    exact ⟨e, by simpa using h1, by rw [if_pos h2, h3]⟩

theorem draw_any (hg : TyAgree P ap) (hcf : CallOk P cf) {ro : Option Nat} {n : Nat} (hA : All ap cf lo ops env base ord anc vals Fs) (hbase : H0.length ≤ base) {Q : Exit → Act → World → Prop}
    (hQ : ∀ φ j F a w D, Inv ap ops env base ord vals Fs φ0 H0 w0 defers D φ j F a w → (∀ i, i < ops.length → D i = true) → Q .normal a w) :
    ∀ (fuel : Nat) (listed : Array Bool) (l : List Nat) (φ : Inj) (j : Nat) (F : AH) (a : Act) (w : World), listed.size = ops.length → l.length ≤ fuel → (∀ i, i < ops.length → listed.getD i false = false → i ∈ l) →
      Closed ops (fun i => listed.getD i false) → Inv ap ops env base ord vals Fs φ0 H0 w0 defers (fun i => listed.getD i false) φ j F a w → wpAnyIn (W ro) n P .any ops.toArray Q fuel listed a w := by
  have done : ∀ (listed : Array Bool), listed.size = ops.length → Region.ready .any ops.toArray listed = [] → ∀ (m i : Nat), ord.idxOf i < m → i < ops.length → listed.getD i false = true := by
    intro listed hs hr m
    induction m with
    | zero => intro i h; omega
    | succ m ih =>
      intro i hm hi
      cases hx : listed.getD i false with
      | true => rfl
      | false =>
        exfalso
        have ho : ops[i]? = some ops[i] := by simp [hi]
        have : i ∈ Region.ready .any ops.toArray listed := by
          rw [mem_ready]
          refine ⟨?_, ops[i], by simp, fun e h1 h2 => ?_⟩
          · have : i < listed.size := by omega
            simp [this] at hx ⊢; exact hx
          · obtain ⟨g1, g2⟩ := hA.O.edge i _ ho e.on (edges_mem.2 ⟨e, h1, h2, rfl⟩)
            exact ih e.on (by omega) g1
        rw [hr] at this; cases this
  intro fuel
  induction fuel with
  | zero =>
    intro listed l φ j F a w hs hl hm hD I
    have hall : ∀ i, i < ops.length → listed.getD i false = true := fun i hi => by
      cases hx : listed.getD i false with
      | true => rfl
      | false =>
        have := hm i hi hx
        cases l with
        | nil => cases this
        | cons => simp at hl
    refine ⟨?_, hQ _ _ _ _ _ _ I hall⟩
    cases hr : Region.ready .any ops.toArray listed with
    | nil => rfl
    | cons x xs =>
      exfalso
      have hx : x ∈ Region.ready .any ops.toArray listed := by rw [hr]; simp
      obtain ⟨h1, o, h2, _⟩ := mem_ready.1 hx
      have hlt : x < ops.length := by
        have := (Array.getElem?_eq_some_iff.1 h2).1
        simpa using this
      have h3 := hall x hlt
      have : x < listed.size := by omega
      simp [this] at h1 h3
      rw [h1] at h3; cases h3
  | succ fuel ih =>
    intro listed l φ j F a w hs hl hm hD I
    refine ⟨fun hr => hQ _ _ _ _ _ _ I fun i hi => done listed hs hr _ i (Nat.lt_succ_self _) hi, fun i hi => ?_⟩
    obtain ⟨h1, o, h2, h3⟩ := mem_ready.1 hi
    have hlt : i < ops.length := by
      have := (Array.getElem?_eq_some_iff.1 h2).1
      simpa using this
    have hil : i < listed.size := by omega
    have ho : ops[i]? = some o := by simpa using h2
    have hDi : listed.getD i false = false := by simp [hil] at h1 ⊢; exact h1
    have hedge : ∀ e ∈ edges o, listed.getD e false = true := fun e he => by
      obtain ⟨e', g1, g2, rfl⟩ := edges_mem.1 he
      exact h3 e' g1 g2
    refine drawn_step hg hcf hA hbase I hD ho hDi hedge ?_
    intro φ' j' F' a' w' I'
    have hil' := hm i hlt hDi
    refine ih (listed.setIfInBounds i true) (l.erase i) φ' j' F' a' w' (by simpa using hs) (by rw [List.length_erase_of_mem hil']; omega) (fun k hk hf => ?_) ?_ ?_
    · have hki : k ≠ i := fun e => by subst e; simp [hil] at hf
      rw [getD_set_ne _ (fun e => hki e.symm)] at hf
      exact (List.mem_erase_of_ne hki).2 (hm k hk hf)
    · rw [with_listed hil]
      intro k p hp hk e he
      unfold with_ at hk ⊢
      split
      · rfl
      · split at hk
        · rename_i hki
          subst hki
          rw [ho] at hp
          cases hp
          exact hedge e he
        · exact hD k p hp hk e he
    · rw [with_listed hil]; exact I'
end

theorem rep_false (n i : Nat) : (Array.replicate n false).getD i false = false := by
  rcases Nat.lt_or_ge i n with h | h
  · simp [h]
  · simp [Array.getElem?_eq_none, h]

/-- A region whose order is drawn. -/
theorem sound_draw {P : Program} {ap : AP} (hm : P.follows .mixedOrders = true) (hg : TyAgree P ap) {cf : CallF} (hcf : CallOk P cf) {ro : Option Nat} {n lo id : Nat} {ops : Array Oper} {ord : List Nat} {anc : List (List Nat)} {env env' : List AV} {H H' : AH} {φ : Inj} {a : Act} {w : World}
    (h : evDraw ap cf lo ops ord anc env H = some (env', H')) (hr : Rel φ H w.heap) (he : ER φ env a.tmps) {Q : Exit → Act → World → Prop}
    (hQ : ∀ φ' a' w', SimW φ H w φ' H' w' → ER φ' env' a'.tmps → a'.defers = a.defers → Q .normal a' w') : (Code.region id ops true).wpIn (W ro) n P Q a w := by
  unfold evDraw at h
  split at h
  · rename_i hok
    have hO := ordP_of hok
    replace h := Option.bind_eq_some_iff.1 h
    obtain ⟨sf, h1, h⟩ := h
    split at h
    · rename_i hwin
      cases h
      have T := trace hO ord [] ⟨fun _ => .undef, H ++ List.replicate ops.size dead0, []⟩ sf rfl rfl h1
      obtain ⟨F, c1, c2, c3⟩ := T.cur
      have hA : All ap cf lo ops.toList env H.length ord anc sf.vals (sf.prev ++ [sf.cur]) := by
        refine ⟨hO, fun i hi => T.facts i (hO.all i hi), fun i j o F ho hc ht hF hin => ?_⟩
        have hi : i < ops.toList.length := (List.getElem?_eq_some_iff.1 ho).1
        unfold winOk at hwin
        have h2 := List.all_eq_true.1 hwin i (hO.all i hi)
        rw [ho] at h2
        simp only at h2
        rw [if_pos (by rw [(isCl_iff ho).2 hc, ht]; rfl)] at h2
        have h3 := List.all_eq_true.1 h2 (F, j) (List.mem_zipIdx_iff_getElem?.2 hF)
        simp only [hin, Bool.not_true, Bool.false_or] at h3
        split at h3
        · rename_i r hr2
          exact ⟨r, hr2, sameV_eq h3⟩
        · cases h3
      have hlenF : F.length = H.length + ops.size := by rw [c2]; simp
      have hget : ∀ b, b < H.length → F[b]? = H[b]? := fun b hb => by
        rw [c3 b fun i _ _ _ => by omega]
        simp only
        rw [List.getElem?_append_left hb]
      refine wpIn_region_any hm ?_
      have key := draw_any (P := P) (ap := ap) (ro := ro) (n := n) (φ0 := φ) (H0 := H) (w0 := w) (defers := a.defers) hg hcf hA (Nat.le_refl _) (Q := Q) (fun φ' j F a' w' D I hall => ?_) ops.size (Array.replicate ops.size false) (List.range ops.size) φ 0 F a { w with drawn := w.drawn + 1 } (by simp) (by simp) (fun i hi _ => by simpa using hi) (fun i o _ h => ?_) ?_
      · simpa using key
      · -- the end
        have hj : j = nE ap ops.toList ord := by
          rcases Nat.lt_trichotomy j (nE ap ops.toList ord) with h2 | h2 | h2
          · obtain ⟨k, k1, k2, k3⟩ := stOf_ex ord hO.nodup j h2
            have hk := hO.lt k k1
            have := (I.e k hk k2).1 (hall k hk)
            omega
          · exact h2
          · obtain ⟨k, k1, k2, k3⟩ := I.cnt _ h2
            have := stOf_lt (ap := ap) (ops := ops.toList) ord k (hO.all k k1) k2
            omega
        have hF := I.hF
        have hl := T.len
        simp only [List.length_nil, Nat.zero_add] at hl
        rw [hj, ← hl] at hF
        simp at hF
        subst hF
        refine hQ φ' a' w' I.sim ?_ I.defs
        have : envF ops.toList env sf.vals (fun _ => true) = envF ops.toList env sf.vals D := by
          unfold envF
          apply List.ext_getElem?
          intro t
          simp only [List.getElem?_mapIdx]
          cases env[t]? with
          | none => rfl
          | some x =>
            simp only [Option.map_some]
            cases hw : writer ops.toList t with
            | none => rfl
            | some k =>
              unfold writer at hw
              obtain ⟨hlt, _⟩ := List.findIdx?_eq_some_iff_getElem.1 hw
              simp [hall k hlt]
        rw [this]
        exact I.env
      · have hf : (Array.replicate ops.size false).getD i false = false := rep_false _ _
        simp only [hf] at h
        cases h
      · have hf : (fun i => (Array.replicate ops.size false).getD i false) = fun _ => false := by
          funext i
          exact rep_false _ _
        rw [hf]
        refine ⟨c1, fun i _ _ => by simp, fun m hm => by omega, ?_, fun s hs _ => ?_, fun s _ _ h => (by cases h), (by rw [hlenF]; simp), ?_, rfl⟩
        · refine ⟨⟨Inj.le_refl φ, fun _ _ e => .inl e, ⟨fun b p e => ?_, fun b p A b' p' A' e1 e2 e3 e4 e5 e6 e7 => ?_⟩, by rw [hlenF]; omega, Nat.le_refl _, fun _ _ _ => rfl, fun b p A e1 e2 e3 => .inr ⟨b, p, A, e1, ?_, e3, rfl⟩, fun _ _ e => .inl e⟩, ⟨rfl, rfl, rfl⟩⟩
          · obtain ⟨A, O, g1, g2, g3⟩ := hr.blk b p e
            exact ⟨A, O, by rw [hget b (hr.lt e)]; exact g1, g2, g3⟩
          · rw [hget _ (hr.lt e1)] at e2
            rw [hget _ (hr.lt e4)] at e5
            exact hr.excl b p A b' p' A' e1 e2 e3 e4 e5 e6 e7
          · rw [hget _ (hr.lt e1)] at e2; exact e2
        · cases hx : φ (H.length + s) with
          | none => rfl
          | some p => have := hr.lt hx; omega
        · unfold envF
          refine er_mapIdx (fun t v u e1 e2 => ?_) he.1
          have h3 := he.2 t v u e1 e2
          cases writer ops.toList t with
          | none => exact h3
          | some j => simpa using h3
    · cases h
  · cases h
end Go.Ab
end
section
set_option linter.unusedVariables false
set_option linter.unusedSimpArgs false
namespace Go.Ab
section
variable {P : Program} {ap : AP}

theorem roundsIn_mono {F : Fence} {n : Nat} {c : Code} {Q Q' : Exit → Act → World → Prop} (hq : ∀ e a w, Q e a w → Q' e a w) : ∀ (i : Nat) (a : Act) (w : World), Code.roundsIn F n P c Q i a w → Code.roundsIn F n P c Q' i a w
  | 0, _, _, h => h
  | i + 1, a, w, h => by
    rw [roundsIn_succ] at h ⊢
    refine wpIn_mono h ?_
    intro e a' w' q
    cases e with
    | normal => exact roundsIn_mono hq i a' w' q
    | _ => exact hq _ _ _ q

theorem sound_code (hmx : P.follows .mixedOrders = true) (hg : TyAgree P ap) {cf : CallF} (hcf : CallOk P cf) {lo n k : Nat} {rd ro : Option Nat} : ∀ (ac : AC) (c : Code), erase c = ac.strip → ∀ (φ : Inj) (s : St) (a : Act) (w : World) (x : Ex) (s' : St),
    evCode ap cf lo rd k ac s = some (x, s') → Rel φ s.H w.heap → ER φ s.env a.tmps → MR φ s.marks a.defers → RdR φ rd ro → c.wpIn (W ro) n P (QA φ s.H w x s') a w := by
  intro ac
  induction ac with
  | skip =>
    intro c hc φ s a w x s' h hr he hm hrd
    simp only [evCode] at h
    cases h
    have q : QA φ s.H w .normal s .normal a w := ⟨rfl, φ, .refl hr, he, hm⟩
    cases c <;> simp only [erase, AC.strip] at hc <;> try (cases hc; done)
    · exact wpIn_skip q
    · split at hc <;> cases hc
    · exact wpIn_label q
  | region ops =>
    intro c hc φ s a w x s' h hr he hm hrd
    simp only [evCode] at h
    obtain ⟨⟨env', H'⟩, e1, h⟩ := Option.map_eq_some_iff.1 h
    cases h
    cases c <;> simp only [erase, AC.strip] at hc <;> try (cases hc; done)
    rename_i id ops' d
    split at hc
    · cases hc
    · rename_i hd
      have hd : d = false := by simpa using hd
      subst hd
      cases hc
      exact wpIn_region_list (sound_ops hg hcf ops' ops'.toList φ s.H s.env a w env' H' e1 hr he fun φ' a' w' h1 h2 h3 => ⟨rfl, φ', h1, h2, by rw [h3]; exact hm.mono h1.ext⟩)
  | draw ops ord anc =>
    intro c hc φ s a w x s' h hr he hm hrd
    simp only [evCode] at h
    obtain ⟨⟨env', H'⟩, e1, h⟩ := Option.map_eq_some_iff.1 h
    cases h
    cases c <;> simp only [erase, AC.strip] at hc <;> try (cases hc; done)
    rename_i id ops' d
    split at hc
    · rename_i hd
      subst hd
      injection hc with hops
      subst hops
      exact sound_draw hmx hg hcf e1 hr he fun φ' a' w' h1 h2 h3 => ⟨rfl, φ', h1, h2, by rw [h3]; exact hm.mono h1.ext⟩
    · cases hc
  | seq a1 b1 iha ihb =>
    intro c hc φ s a w x s' h hr he hm hrd
    simp only [evCode] at h
    replace h := Option.bind_eq_some_iff.1 h
    obtain ⟨⟨x1, s1⟩, e1, h⟩ := h
    cases c <;> simp only [erase, AC.strip] at hc <;> try (cases hc; done)
    · split at hc <;> cases hc
    rename_i ca cb
    injection hc with hca hcb
    refine wpIn_seq (wpIn_mono (iha ca hca φ s a w x1 s1 e1 hr he hm hrd) ?_)
    rintro e a' w' ⟨rfl, φ', h1, h2, h3⟩
    cases x1 with
    | normal =>
      simp only at h
      exact wpIn_mono (ihb cb hcb φ' s1 a' w' x s' h h1.rel h2 h3 (hrd.mono h1.ext)) fun e a2 w2 q => q.pre h1
    | exit id => simp only at h; cases h; exact ⟨rfl, φ', h1, h2, h3⟩
    | ret => simp only at h; cases h; exact ⟨rfl, φ', h1, h2, h3⟩
  | cond c0 t1 e1 iht ihe =>
    intro c hc φ s a w x s' h hr he hm hrd
    simp only [evCode] at h
    cases c <;> simp only [erase, AC.strip] at hc <;> try (cases hc; done)
    · split at hc <;> cases hc
    rename_i c' ct ce
    injection hc with hc0 hct hce
    subst hc0
    have hv := vr_opd he c'
    split at h
    · rename_i hb
      rw [hb] at hv
      have hv' : a.eval c' = .bool true := by
        generalize a.eval c' = u at hv
        cases hv; rfl
      exact wpIn_cond_true hv' (iht ct hct φ s a w x s' h hr he hm hrd)
    · rename_i hb
      rw [hb] at hv
      have hv' : a.eval c' = .bool false := by
        generalize a.eval c' = u at hv
        cases hv; rfl
      exact wpIn_cond_false hv' (ihe ce hce φ s a w x s' h hr he hm hrd)
    · cases h
  | block id b ih =>
    intro c hc φ s a w x s' h hr he hm hrd
    simp only [evCode] at h
    replace h := Option.bind_eq_some_iff.1 h
    obtain ⟨⟨x1, s1⟩, e1, h⟩ := h
    cases c <;> simp only [erase, AC.strip] at hc <;> try (cases hc; done)
    · split at hc <;> cases hc
    rename_i id' cb
    injection hc with hid hcb
    subst hid
    refine wpIn_block (wpIn_mono (ih cb hcb φ s a w x1 s1 e1 hr he hm hrd) ?_)
    rintro e a' w' ⟨rfl, φ', h1, h2, h3⟩
    cases x1 with
    | normal => simp only at h; cases h; exact ⟨rfl, φ', h1, h2, h3⟩
    | ret => simp only at h; cases h; exact ⟨rfl, φ', h1, h2, h3⟩
    | exit i =>
      simp only at h
      show Exit.inBlock id' _ (.exit i) a' w'
      split at h
      · rename_i hi
        cases h
        simp only [Exit.inBlock, if_pos hi]
        exact ⟨rfl, φ', h1, h2, h3⟩
      · rename_i hi
        cases h
        simp only [Exit.inBlock, if_neg hi]
        exact ⟨rfl, φ', h1, h2, h3⟩
  | scope b ih =>
    intro c hc φ s a w x s' h hr he hm hrd
    simp only [evCode] at h
    cases c <;> simp only [erase, AC.strip] at hc <;> try (cases hc; done)
    · split at hc <;> cases hc
    rename_i cb
    injection hc with hcb
    refine wpIn_scope (fun l a w hq => ?_) (ih cb hcb φ s a w x s' h hr he hm hrd)
    obtain ⟨hq, _⟩ := hq
    cases x <;> cases hq
  | loop dead b ih =>
    intro c hc φ s a w x s' h hr he hm hrd
    simp only [evCode] at h
    cases c <;> simp only [erase, AC.strip] at hc <;> try (cases hc; done)
    · split at hc <;> cases hc
    rename_i cb
    injection hc with _ hcb
    refine wpIn_loop_rounds k ?_
    have key : ∀ (j : Nat) (φ : Inj) (s : St) (a : Act) (w : World), evLoop (fun s => evCode ap cf lo rd k b { s with env := mask dead s.env }) j s = some (x, s') → Rel φ s.H w.heap → ER φ s.env a.tmps → MR φ s.marks a.defers →
        RdR φ rd ro → Code.roundsIn (W ro) n P cb (QA φ s.H w x s') j a w := by
      intro j
      induction j with
      | zero => intro φ s a w h; simp only [evLoop] at h; cases h
      | succ j ihj =>
        intro φ s a w h hr he hm hrd
        simp only [evLoop] at h
        replace h := Option.bind_eq_some_iff.1 h
        obtain ⟨⟨x1, s1⟩, e1, h⟩ := h
        rw [roundsIn_succ]
        refine wpIn_mono (ih cb hcb φ { s with env := mask dead s.env } a w x1 s1 e1 hr (er_mask dead he) hm hrd) ?_
        rintro e a' w' ⟨rfl, φ', h1, h2, h3⟩
        cases x1 with
        | normal =>
          simp only at h
          have := ihj φ' s1 a' w' h h1.rel h2 h3 (hrd.mono h1.ext)
          exact roundsIn_mono (fun e a2 w2 q => q.pre h1) j a' w' this
        | exit id => simp only at h; cases h; exact ⟨rfl, φ', h1, h2, h3⟩
        | ret => simp only at h; cases h; exact ⟨rfl, φ', h1, h2, h3⟩
    exact key k φ s a w h hr he hm hrd
  | range g ps asx bd _ _ =>
    intro c hc φ s a w x s' h hr he hm hrd
    cases c <;> simp only [erase, AC.strip] at hc <;> try (cases hc; done)
    · split at hc <;> cases hc
    rename_i g' ps' as' bd'
    injection hc with h1 h2 h3 h4
    subst h1; subst h2
    exact sound_range hg hcf hr he hm hrd h3 h4 h
  | exit id =>
    intro c hc φ s a w x s' h hr he hm hrd
    simp only [evCode] at h
    cases h
    cases c <;> simp only [erase, AC.strip] at hc <;> try (cases hc; done)
    · split at hc <;> cases hc
    · cases hc; exact wpIn_exit ⟨rfl, φ, .refl hr, he, hm⟩
  | ret =>
    intro c hc φ s a w x s' h hr he hm hrd
    simp only [evCode] at h
    cases h
    cases c <;> simp only [erase, AC.strip] at hc <;> try (cases hc; done)
    · split at hc <;> cases hc
    · exact wpIn_ret ⟨rfl, φ, .refl hr, he, hm⟩
  | bad => intro c hc φ s a w x s' h; simp only [evCode] at h; cases h

/-- A function that is told by a contract. -/
def PrimOk (P : Program) (f : Nat) (g : List AV → Nat → AH → Option (AV × AH)) : Prop :=
  ∀ (φ : Inj) (H : AH) (w : World) (args : List AV) (args' : Array Value) (lo : Nat) (v : AV) (H' : AH), g args lo H = some (v, H') → Rel φ H w.heap → ER φ args args' →
    (callFunc f args').run P w = .ok (.enter f args') w ∧ Calls P f args' w (Post φ H w v H')

/-- The tables are those of the program. -/
structure Agree (P : Program) (ap : AP) : Prop extends TyAgree P ap where
  mixed : P.follows .mixedOrders = true
  fn : ∀ f F, ap.fn f = some F → ∃ fn c, P.funcs[f]? = some fn ∧ fn.name ≠ "runtime.NumGoroutine" ∧ fn.body = some c ∧ erase c = F.body.strip ∧ fn.ntmps = F.ntmps ∧ fn.results.toList = F.results
  prim : ∀ f g, ap.prim f = some g → PrimOk P f g

theorem sound_take {φ : Inj} : ∀ (l : List Nat) (H : AH) (w : World) (H' : AH) (ds : List Deferred), takeA l H = some H' → Rel φ H w.heap → MR φ l ds →
    ∃ w', SimW φ H w φ H' w' ∧ ∀ {F : Fence} {n : Nat} {fn : Func} {tmps : Array Value} {R : Ending → World → Prop}, LeavesIn F n P fn tmps R [] .returning w' → LeavesInM F n P fn tmps R ds .returning w
  | [], H, w, H', [], h, hr, _ => by
    simp only [takeA] at h
    cases h
    exact ⟨w, .refl hr, fun h => h⟩
  | d :: r, H, w, H', x :: xs, h, hr, ⟨⟨p, hp, hx⟩, hm⟩ => by
    simp only [takeA] at h
    split at h
    · rename_i hd
      obtain ⟨A, O, h1, h2, h3⟩ := hr.blk d p hp
      rw [hd] at h1; cases h1
      have hO : O = .deferred (some []) := by cases h3; rfl
      subst hO
      have s1 : SimW φ H w φ (H.set d (.deferred true)) (w.putObj p.blk (.deferred none)) := ⟨Sim.write hr hp hd rfl h2 (fun c e fr q => by cases q) (.deferred true) (.inl rfl), ⟨rfl, rfl, rfl⟩⟩
      obtain ⟨w', s2, k⟩ := sound_take r _ (w.putObj p.blk (.deferred none)) H' xs h s1.rel hm
      refine ⟨w', s1.trans s2, fun {F n fn tmps R} hl => ?_⟩
      refine ⟨by simp, .inl ⟨p.blk, _, by rw [hx], run_takeDeferred h2, k hl⟩⟩
    · cases h
  | [], _, _, _, _ :: _, _, _, h => h.elim
  | _ :: _, _, _, _, [], _, _, h => h.elim

theorem sound_res (hg : TyAgree P ap) {φ : Inj} {H : AH} {w : World} (hr : Rel φ H w.heap) {env : List AV} {tmps : Array Value} (he : ER φ env tmps) : ∀ (rs : List ResultVar) (l : List AV), resA ap env H rs = some l →
    ∃ vs : List Value, (rs.mapM (m := Sem) fun
      | .tmp t => pure (tmps.getD t undef)
      | .cell a t => do loadVar t (← asAddr (tmps.getD a undef))).run P w = .ok vs w ∧ ER φ l vs.toArray
  | [], l, h => by
    simp only [resA] at h
    cases h
    exact ⟨[], by simp, er_nil φ⟩
  | r :: rs, l, h => by
    have cons : ∀ {v : AV} {v' : Value} {l : List AV} {vs : List Value}, VR φ v v' → ER φ l vs.toArray → ER φ (v :: l) (v' :: vs).toArray := by
      intro v v' l vs hv hl
      refine ⟨by have := hl.1; simpa using this, fun i a u h1 h2 => ?_⟩
      cases i with
      | zero => simp at h1 h2; subst h1; subst h2; exact hv
      | succ i => exact hl.2 i a u (by simpa using h1) (by simpa using h2)
    have hop : ∀ t, VR φ (Ab.get env t) (tmps.getD t undef) := fun t => vr_opd (a := { tmps := tmps, defers := [] }) he (.tmp t)
    cases r with
    | tmp t =>
      simp only [resA] at h
      obtain ⟨l1, e1, h⟩ := Option.map_eq_some_iff.1 h
      subst h
      obtain ⟨vs, k1, k2⟩ := sound_res hg hr he rs l1 e1
      refine ⟨_, ?_, cons (hop t) k2⟩
      rw [List.mapM_cons]
      simp only [Sem.run_bind, Sem.run_pure, Result.andThen_ok, k1]
    | cell a t =>
      simp only [resA] at h
      replace h := Option.bind_eq_some_iff.1 h
      obtain ⟨v, e0, h⟩ := h
      obtain ⟨l1, e1, h⟩ := Option.map_eq_some_iff.1 h
      subst h
      obtain ⟨vs, k1, k2⟩ := sound_res hg hr he rs l1 e1
      have ha := hop a
      obtain ⟨v', j1, j2⟩ := sound_load (P := P) hg hr ha e0
      have hld : ((do loadVar t (← asAddr (tmps.getD a undef))) : Sem Value).run P w = .ok v' w := by
        unfold aload at e0
        split at e0
        · rename_i b o hgp
          rw [hgp] at ha
          generalize tmps.getD a undef = u at ha j1
          cases ha with
          | ptr _ _ p hp => simpa [Instr.loadAt, Instr.sureAddr, asAddr] using j1
        · cases e0
      refine ⟨_, ?_, cons j2 k2⟩
      rw [List.mapM_cons]
      simp only [Sem.run_bind] at hld ⊢
      rw [hld]
      simp only [Result.andThen_ok, k1, Sem.run_pure]

theorem sound_resV {φ : Inj} {l : List AV} {vs : List Value} (h : ER φ l vs.toArray) : VR φ (resV l) (if h : vs.toArray.size = 1 then vs.toArray[0] else .tuple vs.toArray) := by
  match l, vs, h with
  | [v], [v'], h => exact h.2 0 v v' rfl rfl
  | [], [], h => exact .tuple _ _ h.1 h.2
  | a :: b :: l, a' :: b' :: vs, h => exact .tuple _ _ h.1 h.2
  | [], _ :: _, h => have := h.1; simp at this
  | _ :: _, [], h => have := h.1; simp at this
  | [_], _ :: _ :: _, h => have := h.1; simp at this
  | _ :: _ :: _, [_], h => have := h.1; simp at this

theorem er_env {φ : Inj} {l : List AV} {c : Array Value} (h : ER φ l c) (n : Nat) : ER φ (l ++ List.replicate (n - l.length) .undef) (c ++ Array.replicate (n - c.size) undef) := by
  refine er_append h ⟨by simp [h.1], fun i a v h1 h2 => ?_⟩
  have : a = .undef := by
    have := List.mem_of_getElem? h1
    exact List.eq_of_mem_replicate this
  subst this
  exact .undef _

/-! what was made on the way is forgotten -/
theorem refsL_mem {r : Nat} : ∀ {l : List AV}, r ∈ refsL l ↔ ∃ a ∈ l, r ∈ refsV a
  | [] => by simp [refsL]
  | a :: l => by simp [refsL, refsL_mem (l := l)]
theorem refs_all {P : Nat → Prop} {l : List AV} (h : ∀ (i : Nat) (a : AV), l[i]? = some a → ∀ r ∈ refsV a, P r) : ∀ r ∈ refsL l, P r := fun r hr => by
  obtain ⟨a, ha, h2⟩ := refsL_mem.1 hr
  obtain ⟨i, hi⟩ := List.getElem?_of_mem ha
  exact h i a hi r h2
theorem refs_get {P : Nat → Prop} {l : List AV} (h : ∀ r ∈ refsL l, P r) {i : Nat} {a : AV} (e : l[i]? = some a) : ∀ r ∈ refsV a, P r := fun r hr => h r (refsL_mem.2 ⟨a, List.mem_of_getElem? e, hr⟩)
theorem VR.refs {φ : Inj} {a : AV} {v : Value} (h : VR φ a v) : ∀ r ∈ refsV a, ∃ p, φ r = some p := by
  induction h with
  | ptr b o p h => intro r hr; simp [refsV] at hr; subst hr; exact ⟨p, h⟩
  | slice b o len cap sz p a' cap' h => intro r hr; simp [refsV] at hr; subst hr; exact ⟨p, h⟩
  | yield l p h => intro r hr; simp [refsV] at hr; subst hr; exact ⟨p, h⟩
  | iface t v v' h ih => simpa [refsV] using ih
  | func f l m l' m' h1 h2 h3 h4 i2 i4 =>
    intro r hr
    simp only [refsV, List.mem_append] at hr
    rcases hr with hr | hr
    · refine refs_all (P := fun r => ∃ p, φ r = some p) (fun i a e => ?_) r hr
      have hi : i < l'.size := by have := (List.getElem?_eq_some_iff.1 e).1; omega
      exact i2 i a l'[i] e (by simp [hi])
    · refine refs_all (P := fun r => ∃ p, φ r = some p) (fun i a e => ?_) r hr
      have hi : i < m'.size := by have := (List.getElem?_eq_some_iff.1 e).1; omega
      exact i4 i a m'[i] e (by simp [hi])
  | agg l l' h1 h2 ih =>
    intro r hr
    simp only [refsV] at hr
    refine refs_all (P := fun r => ∃ p, φ r = some p) (fun i a e => ?_) r hr
    have hi : i < l'.size := by have := (List.getElem?_eq_some_iff.1 e).1; omega
    exact ih i a l'[i] e (by simp [hi])
  | tuple l l' h1 h2 ih =>
    intro r hr
    simp only [refsV] at hr
    refine refs_all (P := fun r => ∃ p, φ r = some p) (fun i a e => ?_) r hr
    have hi : i < l'.size := by have := (List.getElem?_eq_some_iff.1 e).1; omega
    exact ih i a l'[i] e (by simp [hi])
  | _ => intro r hr; simp [refsV] at hr
theorem VR.cut {φ φ' : Inj} {n : Nat} (hc : ∀ b, b < n → φ' b = φ b) {a : AV} {v : Value} (h : VR φ a v) (hr : ∀ r ∈ refsV a, r < n) : VR φ' a v := by
  induction h with
  | undef v => exact .undef v
  | bool b => exact .bool b
  | int k n => exact .int k n
  | str s => exact .str s
  | ptrN => exact .ptrN
  | ptr b o p h => exact .ptr b o p (by rw [hc _ (hr b (by simp [refsV]))]; exact h)
  | sliceN c sz => exact .sliceN c sz
  | slice b o len cap sz p a' cap' h ha hlen hR hc' => exact .slice b o len cap sz p a' cap' (by rw [hc _ (hr b (by simp [refsV]))]; exact h) ha hlen hR hc'
  | func f l m l' m' h1 h2 h3 h4 i2 i4 =>
    simp only [refsV, List.mem_append] at hr
    exact .func f l m l' m' h1 (fun i a v e1 e2 => i2 i a v e1 e2 (refs_get (P := (· < n)) (fun r h => hr r (.inl h)) e1)) h3 (fun i a v e1 e2 => i4 i a v e1 e2 (refs_get (P := (· < n)) (fun r h => hr r (.inr h)) e1))
  | yield l p h => exact .yield l p (by rw [hc _ (hr l (by simp [refsV]))]; exact h)
  | nilFunc => exact .nilFunc
  | nilIface => exact .nilIface
  | iface t v v' h ih => exact .iface t v v' (ih (by simpa [refsV] using hr))
  | agg l l' h1 h2 ih => exact .agg l l' h1 fun i a v e1 e2 => ih i a v e1 e2 (refs_get (P := (· < n)) (by simpa [refsV] using hr) e1)
  | tuple l l' h1 h2 ih => exact .tuple l l' h1 fun i a v e1 e2 => ih i a v e1 e2 (refs_get (P := (· < n)) (by simpa [refsV] using hr) e1)
theorem BR.cut {φ φ' : Inj} {n : Nat} (hc : ∀ b, b < n → φ' b = φ b) {p : PL} {A : AB} {O : Obj} (h : BR φ p A O) (ho : oldB n A) : BR φ' p A O := by
  cases h with
  | cells l md c e fr h1 h2 h3 h4 h5 => exact .cells l md c e fr h1 h2 (fun i a ei => by obtain ⟨v, k1, k2⟩ := h3 i a ei; exact ⟨v, k1, k2.cut hc (refs_get (P := (· < n)) ho ei)⟩) h4 h5
  | deferred t => exact .deferred t
  | loop => exact ho.elim
theorem BR.old {φ0 φ φ' : Inj} {n : Nat} (hlt : ∀ b p, φ0 b = some p → b < n) (hc : ∀ b, b < n → φ' b = φ b) {p : PL} {A : AB} {O O' : Obj} (h0 : BR φ0 p A O') (h : BR φ p A O) : BR φ' p A O := by
  cases h with
  | cells l md c e fr h1 h2 h3 h4 h5 =>
    cases h0 with
    | cells _ _ c' e' fr' g1 g2 g3 g4 g5 =>
      refine .cells l md c e fr h1 h2 (fun i a ei => ?_) h4 h5
      obtain ⟨v, k1, k2⟩ := h3 i a ei
      obtain ⟨v', k3, k4⟩ := g3 i a ei
      exact ⟨v, k1, k2.cut hc fun r hr => let ⟨p, hp⟩ := k4.refs r hr; hlt r p hp⟩
  | deferred t => exact .deferred t
  | loop st pe env ps asx bd d r p' h1 h2 h3 h4 h5 h6 h7 h8 =>
    cases h0 with
    | loop _ _ _ _ _ _ _ r0 p0 g1 g2 g3 g4 g5 g6 g7 g8 =>
      refine .loop st pe env ps asx bd d r p' h1 h2 ⟨h3.1, fun i a v e1 e2 => ?_⟩ h4 h5 h6 (by rw [hc _ (hlt _ _ g7)]; exact h7) h8
      refine (h3.2 i a v e1 e2).cut hc fun r' hr => ?_
      have hi : i < r0.tmps.size := by have := (List.getElem?_eq_some_iff.1 e1).1; have := g3.1; omega
      obtain ⟨p, hp⟩ := (g3.2 i a r0.tmps[i] e1 (by simp [hi])).refs r' hr
      exact hlt r' p hp
theorem gc_sim {φ φ2 : Inj} {H H2 : AH} {hp hp2 : Array Obj} {v : AV} {v' : Value} (hr : Rel φ H hp) (s : Sim φ H hp φ2 H2 hp2) (hv : VR φ2 v v') (ok : gcOk H H2 v) : ∃ φ3, Sim φ H hp φ3 (H2.take H.length) hp2 ∧ VR φ3 v v' := by
  obtain ⟨o1, o2, o3⟩ := ok
  obtain ⟨φ3, e3⟩ : ∃ φ3 : Inj, φ3 = fun b => if b < H.length then φ2 b else none := ⟨_, rfl⟩
  have hc : ∀ b, b < H.length → φ3 b = φ2 b := fun b hb => by rw [e3]; simp [hb]
  have hd : ∀ b p, φ3 b = some p → b < H.length ∧ φ2 b = some p := fun b p e => by
    rw [e3] at e
    simp only at e
    split at e
    · rename_i hb; exact ⟨hb, e⟩
    · cases e
  have hold : ∀ b p, φ3 b = some p → φ b = some p := fun b p e => by
    obtain ⟨hb, e2⟩ := hd b p e
    rcases s.new b p e2 with h | h
    · exact h
    · omega
  have hget : ∀ b, b < H.length → (H2.take H.length)[b]? = H2[b]? := fun b hb => List.getElem?_take_of_lt hb
  refine ⟨φ3, ⟨fun b p e => by rw [hc b (hr.lt e)]; exact s.ext b p e, fun b p e => .inl (hold b p e), ⟨fun b p e => ?_, fun b p A b' p' A' e1 e2 e3' e4 e5 e6 e7 => ?_⟩, by simp [o1], s.size, s.frame, fun b p A e1 e2 e3' => ?_, fun b p e => .inl (hold b p e)⟩, hv.cut hc o2⟩
  · obtain ⟨hb, e2⟩ := hd b p e
    obtain ⟨A, O, h1, h2, h3⟩ := s.rel.blk b p e2
    refine ⟨A, O, by rw [hget b hb]; exact h1, h2, ?_⟩
    rcases o3 b hb with h | ⟨A', h, ho⟩
    · obtain ⟨A0, O0, g1, g2, g3⟩ := hr.blk b p (hold b p e)
      rw [← h, h1] at g1
      cases g1
      exact BR.old (fun b p e => hr.lt e) hc g3 h3
    · rw [h1] at h
      cases h
      exact h3.cut hc ho
  · obtain ⟨hb, f1⟩ := hd b p e1
    obtain ⟨hb', f2⟩ := hd b' p' e4
    rw [hget b hb] at e2
    rw [hget b' hb'] at e5
    exact s.rel.excl b p A b' p' A' f1 e2 e3' f2 e5 e6 e7
  · obtain ⟨hb, f1⟩ := hd b p e1
    rw [hget b hb] at e2
    exact s.img b p A f1 e2 e3'
theorem gc_post {ap : AP} {f : Nat} {φ φ2 : Inj} {H H2 H' : AH} {w w2 : World} {v0 v : AV} {v' : Value} (hr : Rel φ H w.heap) (s : SimW φ H w φ2 H2 w2) (hv : VR φ2 v0 v') (h : gcR ap f H (v0, H2) = (v, H')) : ∃ φ3, SimW φ H w φ3 H' w2 ∧ VR φ3 v v' := by
  unfold gcR at h
  split at h
  · unfold gcF at h
    split at h
    · rename_i ok
      cases h
      obtain ⟨φ3, a, b⟩ := gc_sim hr s.toSim hv ok
      exact ⟨φ3, ⟨a, s.str⟩, b⟩
    · cases h; exact ⟨φ2, s, hv⟩
  · cases h; exact ⟨φ2, s, hv⟩

theorem sound_fn (hg : Agree P ap) {cf : CallF} (hcf : CallOk P cf) {lo k f : Nat} {φ : Inj} {H : AH} {w : World} {args : List AV} {args' : Array Value} {v : AV} {H' : AH} (h : fnA ap cf lo k f args H = some (v, H')) (hr : Rel φ H w.heap) (he : ER φ args args') :
    (callFunc f args').run P w = .ok (.enter f args') w ∧ ∀ n, CallsIn Fence.wide n P f args' w (Post φ H w v H') := by
  unfold fnA at h
  replace h := Option.bind_eq_some_iff.1 h
  obtain ⟨F, e1, h⟩ := h
  replace h := Option.bind_eq_some_iff.1 h
  obtain ⟨⟨x, s⟩, e2, h⟩ := h
  obtain ⟨fn, c, f1, f2, f3, f4, f5, f6⟩ := hg.fn f F e1
  refine ⟨by simp [callFunc, f1, f2, f3], fun n => ?_⟩
  refine callsIn_of_wp_marks f1 f3 trivial ?_
  have henv := er_env he fn.ntmps
  have hcode := sound_code hg.mixed hg.toTyAgree hcf (n := n) (ro := none) (rd := none) F.body c f4 φ ⟨args ++ List.replicate (F.ntmps - args.length) .undef, H, []⟩ { tmps := args' ++ Array.replicate (fn.ntmps - args'.size) undef, defers := [] } w x s e2 hr
    (by rw [← f5]; exact henv) trivial trivial
  refine wpIn_mono hcode ?_
  rintro e a' w' ⟨rfl, φ', h1, h2, h3⟩
  have fin : ∀ {v : AV} {H' : AH}, ((takeA s.marks s.H).bind fun H' => (resA ap s.env H' F.results).map fun l => gcR ap f H (resV l, H')) = some (v, H') → LeavesInM Fence.wide n P fn a'.tmps (Post φ H w v H') a'.defers .returning w' := by
    intro v H' h
    replace h := Option.bind_eq_some_iff.1 h
    obtain ⟨H2, e3, h⟩ := h
    obtain ⟨l, e4, h⟩ := Option.map_eq_some_iff.1 h
    obtain ⟨w2, s2, k2⟩ := sound_take (P := P) s.marks s.H w' H2 a'.defers e3 h1.rel h3
    refine k2 ?_
    obtain ⟨vs, r1, r2⟩ := sound_res hg.toTyAgree s2.rel h2 F.results l e4
    obtain ⟨φ3, t1, t2⟩ := gc_post hr (h1.trans s2) (sound_resV r2) h
    refine ⟨_, ?_, ⟨_, φ3, rfl, t1, t2⟩⟩
    have hm : (fn.results.mapM (m := Sem) fun
      | .tmp t => pure (a'.tmps.getD t undef)
      | .cell a t => do loadVar t (← asAddr (a'.tmps.getD a undef))).run P w2 = .ok vs.toArray w2 := by
      rw [Array.mapM_eq_mapM_toList, f6, map_eq_pure_bind, Sem.run_bind, r1]
      rfl
    unfold results
    rw [Sem.run_bind]
    exact congrArg (fun r => r.andThen fun a w' => Sem.run P (pure (if h : a.size = 1 then a[0] else Value.tuple a)) w') hm
  cases x with
  | exit id => simp only at h; cases h
  | normal => exact fin h
  | ret => exact fin h

theorem er_setL {φ : Inj} : ∀ (l : List Tmp) (xs : List AV) (vs : List Value) (env : List AV) (c : Array Value), ER φ env c → ER φ xs vs.toArray → ER φ (setL env (l.zip xs)) ((l.zip vs).foldl (fun t x => t.setIfInBounds x.1 x.2) c)
  | [], _, _, env, c, h, _ => by simpa [setL] using h
  | t :: r, [], [], env, c, h, _ => by simpa [setL] using h
  | t :: r, x :: xs, v :: vs, env, c, h, hx => by
    have h0 := hx.2 0 x v rfl rfl
    have hs := er_set (a := { tmps := c, defers := [] }) h h0 (some t)
    simp only [List.zip_cons_cons, setL, List.foldl_cons]
    exact er_setL r xs vs _ _ hs ⟨by have := hx.1; simpa using this, fun i a u h1 h2 => hx.2 (i + 1) a u (by simpa using h1) (by simpa using h2)⟩
  | _ :: _, [], _ :: _, _, _, _, h => by have := h.1; simp at this
  | _ :: _, _ :: _, [], _, _, _, h => by have := h.1; simp at this

theorem sound_round (hmx : P.follows .mixedOrders = true) (hg : TyAgree P ap) {cf : CallF} (hcf : CallOk P cf) {lo k l : Nat} {φ : Inj} {H : AH} {w : World} {args : List AV} {args' : Array Value} {v : AV} {H' : AH} {p : PL} (h : roundA ap cf lo k l args H = some (v, H')) (hr : Rel φ H w.heap) (hl : φ l = some p) (he : ER φ args args') :
    ∃ f tmps asx bd, (Instr.yield p.blk args').run P w = .ok (.round p.blk f tmps asx bd) w ∧ ∀ n, RoundIn Fence.wide n P p.blk f tmps asx bd w (Post φ H w v H') := by
  unfold roundA at h
  split at h
  · rename_i st pe env ps asx bd d hH
    obtain ⟨r, p', j1, j2, j3, j4, j5, j6, j7, j8, j9⟩ := rel_loop hr hl hH
    split at h
    · cases h
    · rename_i hlen
      have hlen : args.length = ps.size := by simpa using hlen
      have hsz : args'.size = r.params.size := by rw [j5, ← hlen]; exact he.1.symm
      refine ⟨_, _, _, _, run_yield j1 hsz, fun n => ?_⟩
      replace h := Option.bind_eq_some_iff.1 h
      obtain ⟨⟨x1, s1⟩, e1, h⟩ := h
      simp only at h
      have htm : (r.params.zip args').foldl (fun tmps (x : Tmp × Value) => tmps.setIfInBounds x.1 x.2) r.tmps = (ps.toList.zip args'.toList).foldl (fun t x => t.setIfInBounds x.1 x.2) r.tmps := by
        rw [← Array.foldl_toList, Array.toList_zip, j5]
      have henv : ER φ (setL env (ps.toList.zip args)) ((r.params.zip args').foldl (fun tmps (x : Tmp × Value) => tmps.setIfInBounds x.1 x.2) r.tmps) := by
        rw [htm]
        exact er_setL _ _ _ _ _ j4 (by simpa using he)
      split at h
      · rename_i pe2 env2 ps2 as2 bd2 d2 hH1
        replace h := Option.bind_eq_some_iff.1 h
        obtain ⟨⟨x2, s2⟩, e2, h⟩ := h
        simp only at h
        refine roundIn_of_wpIn (F := Fence.wide) trivial ?_
        have hc1 := sound_code hmx hg hcf (n := n) (ro := some p.blk) (rd := some l) asx r.assign j6 φ ⟨setL env (ps.toList.zip args), H, []⟩ { tmps := (r.params.zip args').foldl (fun tmps (x : Tmp × Value) => tmps.setIfInBounds x.1 x.2) r.tmps, defers := [] } w .normal s1 e1 hr henv trivial ⟨p, hl, rfl⟩
        refine wpIn_mono hc1 ?_
        rintro e a1 w1 ⟨rfl, φ1, q1, q2, q3⟩
        have hl1 := q1.ext _ _ hl
        obtain ⟨r1, p1, m1, m2, m3, m4, m5, m6, m7, m8, m9⟩ := rel_loop q1.rel hl1 hH1
        have sb := set_loop (st' := .busy) (pe' := r1.pending) q1.rel hl1 hH1 m1 m4 m5 m6 m7 m8 m9
        refine ⟨_, run_beginRound m1 m2, ?_⟩
        rw [m3] at sb
        have heq : ({ r1 with state := .busy, pending := pe2 } : Loop) = { r1 with state := .busy } := by rw [← m3]
        rw [heq] at sb
        have hc2 := sound_code hmx hg hcf (n := n) (ro := some p.blk) (rd := some l) bd r.body j7 φ1 ⟨s1.env, s1.H.set l (.loop .busy pe2 env2 ps2 as2 bd2 d2), s1.marks⟩ a1 (w1.putObj p.blk (.loop { r1 with state := .busy })) x2 s2 e2 sb.rel q2 q3 ⟨p, hl1, rfl⟩
        refine wpIn_mono hc2 ?_
        rintro e a2 w2 ⟨rfl, φ2, t1, t2, t3⟩
        split at h
        · rename_i st3 pe3 env3 ps3 as3 bd3 d3 hH2
          cases h
          have hl2 := t1.ext _ _ hl1
          obtain ⟨r2, p2, u1, u2, u3, u4, u5, u6, u7, u8, u9⟩ := rel_loop t1.rel hl2 hH2
          have se := set_loop (st' := if (jumpOf x2).isNone then .ready else .done) (pe' := jumpOf x2) t1.rel hl2 hH2 u1 u4 u5 u6 u7 u8 u9
          have hend := run_endRound (P := P) (jumpOf x2) u1
          have hall := ((q1.trans sb).trans t1).trans se
          have fin : ∃ v w', (Instr.endRound p.blk (jumpOf x2)).run P w2 = .ok v w' ∧ Post φ H w (.bool (jumpOf x2).isNone) (s2.H.set l (.loop (if (jumpOf x2).isNone then .ready else .done) (jumpOf x2) env3 ps3 as3 bd3 d3)) (.returned v) w' :=
            ⟨_, _, hend, _, φ2, rfl, hall, .bool _⟩
          cases x2 with
          | normal => exact fin
          | ret => exact fin
          | exit id => exact fin
        · cases h
      · cases h
  · cases h

theorem sound_call (hg : Agree P ap) : ∀ k, CallOk P (callA ap k)
  | 0 => fun φ H w f f' args args' lo v H' h => by simp only [callA] at h; cases h
  | k + 1 => fun φ H w f f' args args' lo v H' h hr hf he => by
    have ih := sound_call hg k
    simp only [callA] at h
    cases hf <;> simp only at h <;> try (cases h; done)
    · rename_i f l m l' m' h1 h2 h3 h4
      have hargs : ER φ (l ++ args ++ m) (l' ++ args' ++ m') := er_append (er_append ⟨h1, h2⟩ he) ⟨h3, h4⟩
      have main : (callFunc f (l' ++ args' ++ m')).run P w = .ok (.enter f (l' ++ args' ++ m')) w ∧ ∀ n, CallsIn Fence.wide n P f (l' ++ args' ++ m') w (Post φ H w v H') := by
        split at h
        · rename_i g hp
          obtain ⟨k1, k2⟩ := hg.prim f g hp φ H w _ _ lo v H' h hr hargs
          exact ⟨k1, fun n => callsIn_wide.2 k2⟩
        · exact sound_fn hg ih h hr hargs
      refine ⟨{ target := .fn (.func f) m', args := l' ++ args' }, .enter f (l' ++ args' ++ m'), w, by simp [Deferred.ofValue], ?_, rfl, main.2, fun _ => ⟨_, _, rfl⟩⟩
      simp only [invoke]
      exact main.1
    · rename_i l p hp
      obtain ⟨f, tmps, asx, bd, k1, k2⟩ := sound_round hg.mixed hg.toTyAgree ih h hr hp he
      refine ⟨{ target := .fn (.yield p.blk) #[], args := #[] ++ args' }, .round p.blk f tmps asx bd, w, by simp [Deferred.ofValue], ?_, rfl, k2, fun hh => by simp [isFunc] at hh⟩
      simp only [invoke, Array.empty_append]
      exact k1

/-! ### tables -/
def bodyOf (f : Func) : Code := f.body.getD .skip
/-- The loops over functions, in their order: the assignment, the body. -/
def rangesOf : Code → List (Code × Code)
  | .seq a b => rangesOf a ++ rangesOf b
  | .cond _ t e => rangesOf t ++ rangesOf e
  | .block _ b | .loop b | .scope b => rangesOf b
  | .rangeFunc _ _ asx bd => (asx, bd) :: (rangesOf asx ++ rangesOf bd)
  | _ => []
def rAs (c : Code) (k : Nat) : Code := ((rangesOf c)[k]?).elim .skip (·.1)
def rBd (c : Code) (k : Nat) : Code := ((rangesOf c)[k]?).elim .skip (·.2)
/-- The operations of a region. -/
def drawsOf : Code → List (Nat × Array Oper)
  | .seq a b => drawsOf a ++ drawsOf b
  | .cond _ t e => drawsOf t ++ drawsOf e
  | .block _ b | .loop b | .scope b => drawsOf b
  | .rangeFunc _ _ asx bd => drawsOf asx ++ drawsOf bd
  | .region id ops _ => [(id, ops)]
  | _ => []
def drawOf (c : Code) (id : Nat) : Array Oper := ((drawsOf c).lookup id).getD #[]

def FnOk (P : Program) (f : Nat) (F : AFn) : Prop :=
  ∃ fn c, P.funcs[f]? = some fn ∧ fn.name ≠ "runtime.NumGoroutine" ∧ fn.body = some c ∧ erase c = F.body.strip ∧ fn.ntmps = F.ntmps ∧ fn.results.toList = F.results
theorem fnOk_of {P : Program} {f : Nat} {F : AFn} {fn : Func} {c : Code} (h : P.funcs[f]? = some fn) (hb : fn.body = some c) (hn : fn.name ≠ "runtime.NumGoroutine") (he : erase c = F.body.strip) (ht : fn.ntmps = F.ntmps) (hr : fn.results.toList = F.results) : FnOk P f F :=
  ⟨fn, c, h, hn, hb, he, ht, hr⟩
theorem lookup_mem {α : Type} : ∀ (l : List (Nat × α)) (k : Nat) (v : α), l.lookup k = some v → (k, v) ∈ l
  | (a, b) :: r, k, v, h => by
    rw [List.lookup_cons] at h
    split at h
    · rename_i e
      cases h
      have : k = a := by simpa using e
      subst this
      simp
    · exact List.mem_cons_of_mem _ (lookup_mem r k v h)
theorem agree_of {P : Program} {tys : List (Nat × TI)} {fns : List (Nat × AFn)} (h0 : P.follows .mixedOrders = true) (h1 : ∀ x ∈ tys, tiOf P x.1 = some x.2) (h2 : ∀ x ∈ fns, FnOk P x.1 x.2) :
    Agree P { ty := fun t => tys.lookup t, fn := fun f => fns.lookup f, prim := fun _ => none } where
  mixed := h0
  ty := fun t ti h => h1 _ (lookup_mem tys t ti h)
  ext := fun f g h => by cases h
  fn := fun f F h => h2 _ (lookup_mem fns f F h)
  prim := fun f g h => by cases h
end
end Go.Ab
end
section
/-! Carrying the code out: what comes of it, by simp. -/
set_option linter.unusedVariables false
set_option linter.unusedSimpArgs false
namespace Go.Ab
/-- A mark on what simp works at: its rule is no computation, so that simp never falls back to looking at all that comes behind. -/
def tag {α : Type} (a : α) : α := a
@[simp] theorem tag_eq {α : Type} (a : α) : tag a = a := (Eq.refl a).trans (Eq.refl a)
/-- It comes to an end, and so. -/
inductive Hx {α : Type} (o : Option α) (Q : α → Prop) : Prop where
  | mk (r : α) (e : o = some r) (h : Q r) : Hx o Q
@[congr] theorem Hx_congr {α : Type} {o o' : Option α} {Q : α → Prop} (h : tag o = o') : Hx o Q = Hx o' Q := by cases h; rfl
theorem Hx_iff {α : Type} {o : Option α} {Q : α → Prop} : Hx o Q ↔ ∃ r, o = some r ∧ Q r := ⟨fun ⟨r, e, h⟩ => ⟨r, e, h⟩, fun ⟨r, e, h⟩ => ⟨r, e, h⟩⟩
@[simp] theorem Hx_some {α : Type} {a : α} {Q : α → Prop} : Hx (some a) Q = Q a := propext ⟨fun h => (by obtain ⟨r, e, h⟩ := h; cases e; exact h), fun h => ⟨a, rfl, h⟩⟩
@[simp] theorem Hx_none {α : Type} {Q : α → Prop} : Hx none Q = False := propext ⟨fun h => (by obtain ⟨r, e, h⟩ := h; cases e), fun h => False.elim h⟩
theorem Hx_bind {α β : Type} {o : Option α} {f : α → Option β} {Q : β → Prop} : Hx (o.bind f) Q = Hx o fun a => Hx (f a) Q := by cases o <;> simp
theorem Hx_map {α β : Type} {o : Option α} {f : α → β} {Q : β → Prop} : Hx (o.map f) Q = Hx o fun a => Q (f a) := by cases o <;> simp
theorem Hx_eq {α : Type} {o : Option α} {x : α} : Hx o (fun r => r = x) ↔ o = some x := by
  cases o with
  | none => simp
  | some r => simp
theorem Hx.mono {α : Type} {o : Option α} {Q Q' : α → Prop} (h : Hx o Q) (hq : ∀ r, Q r → Q' r) : Hx o Q' := by
  obtain ⟨r, e, h⟩ := h
  exact ⟨r, e, hq r h⟩
theorem Hx_ite {α : Type} {c : Prop} [Decidable c] {a b : Option α} {Q : α → Prop} : Hx (if c then a else b) Q = if c then Hx a Q else Hx b Q := by split <;> rfl

/-- The rest behind the first part. -/
def seqK (f : St → Option (Ex × St)) (Q : Ex × St → Prop) (r : Ex × St) : Prop := match r.1 with | .normal => Hx (f r.2) Q | _ => Q r
@[simp] theorem seqK_normal {f : St → Option (Ex × St)} {Q : Ex × St → Prop} {s : St} : seqK f Q (.normal, s) = Hx (f s) Q := propext ⟨fun h => h, fun h => h⟩
@[simp] theorem seqK_exit {f : St → Option (Ex × St)} {Q : Ex × St → Prop} {i : Nat} {s : St} : seqK f Q (.exit i, s) = Q (.exit i, s) := propext ⟨fun h => h, fun h => h⟩
@[simp] theorem seqK_ret {f : St → Option (Ex × St)} {Q : Ex × St → Prop} {s : St} : seqK f Q (.ret, s) = Q (.ret, s) := propext ⟨fun h => h, fun h => h⟩
@[congr] theorem seqK_congr {f : St → Option (Ex × St)} {Q : Ex × St → Prop} {r r' : Ex × St} (h : tag r = r') : seqK f Q r = seqK f Q r' := by cases h; rfl
def blkK (id : Nat) (Q : Ex × St → Prop) (r : Ex × St) : Prop := match r.1 with | .exit i => Q (if i = id then .normal else .exit i, r.2) | _ => Q r
@[simp] theorem blkK_normal {id : Nat} {Q : Ex × St → Prop} {s : St} : blkK id Q (.normal, s) = Q (.normal, s) := propext ⟨fun h => h, fun h => h⟩
@[simp] theorem blkK_exit {id i : Nat} {Q : Ex × St → Prop} {s : St} : blkK id Q (.exit i, s) = Q (if i = id then .normal else .exit i, s) := propext ⟨fun h => h, fun h => h⟩
@[simp] theorem blkK_ret {id : Nat} {Q : Ex × St → Prop} {s : St} : blkK id Q (.ret, s) = Q (.ret, s) := propext ⟨fun h => h, fun h => h⟩
@[congr] theorem blkK_congr {id : Nat} {Q : Ex × St → Prop} {r r' : Ex × St} (h : tag r = r') : blkK id Q r = blkK id Q r' := by cases h; rfl
/-- A branch. -/
def condK (v : AV) (t e : Prop) : Prop := match v with | .bool true => t | .bool false => e | _ => False
@[simp] theorem condK_t {t e : Prop} : condK (.bool true) t e = t := propext ⟨fun h => h, fun h => h⟩
@[simp] theorem condK_f {t e : Prop} : condK (.bool false) t e = e := propext ⟨fun h => h, fun h => h⟩
theorem condK_p {p : Prop} [Decidable p] {t e : Prop} : condK (.bool (decide p)) t e = if p then t else e := by by_cases h : p <;> simp [h, condK]
theorem condK_b {b : Bool} {t e : Prop} : condK (.bool b) t e = if b = true then t else e := by cases b <;> simp [condK]
@[congr] theorem condK_congr {v v' : AV} {t e : Prop} (h : tag v = v') : condK v t e = condK v' t e := by cases h; rfl
/-- Behind a region. -/
def regK (ms : List Nat) (Q : Ex × St → Prop) (r : List AV × AH) : Prop := Q (.normal, ⟨r.1, r.2, ms⟩)
@[simp] theorem regK_mk {ms : List Nat} {Q : Ex × St → Prop} {env : List AV} {H : AH} : regK ms Q (env, H) = Q (.normal, ⟨env, H, ms⟩) := propext ⟨fun h => h, fun h => h⟩
@[congr] theorem regK_congr {ms : List Nat} {Q : Ex × St → Prop} {r r' : List AV × AH} (h : tag r = r') : regK ms Q r = regK ms Q r' := by cases h; rfl
/-- The operations that follow. -/
def opsK (ap : AP) (cf : CallF) (lo : Nat) (l : List AO) (Q : List AV × AH → Prop) (r : List AV × AH) : Prop := Hx (evOps ap cf lo l r.1 r.2) Q
@[simp] theorem opsK_mk {ap : AP} {cf : CallF} {lo : Nat} {l : List AO} {Q : List AV × AH → Prop} {env : List AV} {H : AH} : opsK ap cf lo l Q (env, H) = Hx (evOps ap cf lo l env H) Q := propext ⟨fun h => h, fun h => h⟩
@[congr] theorem opsK_congr {ap : AP} {cf : CallF} {lo : Nat} {l : List AO} {Q : List AV × AH → Prop} {r r' : List AV × AH} (h : tag r = r') : opsK ap cf lo l Q r = opsK ap cf lo l Q r' := by cases h; rfl
/-- One operation. -/
def stepO (ap : AP) (cf : CallF) (lo : Nat) (o : AO) (env : List AV) (H : AH) : Option (List AV × AH) :=
  match wantedA env o.guard o.want with
  | some true => (aoper ap cf lo env H o.op).map fun p => (setD env o.dst p.1, p.2)
  | some false => some (setD env o.dst (.tuple []), H)
  | none => none
section
variable {ap : AP} {cf : CallF} {lo k : Nat} {rd : Option Nat} {s : St} {Q : Ex × St → Prop}
@[simp ↓] theorem hx_skip : Hx (evCode ap cf lo rd k .skip s) Q = Q (.normal, s) := by simp only [evCode, Hx_some]
@[simp ↓] theorem hx_exit {id : Nat} : Hx (evCode ap cf lo rd k (.exit id) s) Q = Q (.exit id, s) := by simp only [evCode, Hx_some]
@[simp ↓] theorem hx_ret : Hx (evCode ap cf lo rd k .ret s) Q = Q (.ret, s) := by simp only [evCode, Hx_some]
@[simp ↓] theorem hx_region {ops : List AO} : Hx (evCode ap cf lo rd k (.region ops) s) Q = Hx (evOps ap cf lo ops s.env s.H) (regK s.marks Q) := by simp only [evCode, Hx_map]; rfl
@[simp ↓] theorem hx_draw {ops : Array Oper} {ord : List Nat} {anc : List (List Nat)} : Hx (evCode ap cf lo rd k (.draw ops ord anc) s) Q = Hx (evDraw ap cf lo ops ord anc s.env s.H) (regK s.marks Q) := by simp only [evCode, Hx_map]; rfl
@[simp ↓] theorem hx_seq {a b : AC} : Hx (evCode ap cf lo rd k (.seq a b) s) Q = Hx (evCode ap cf lo rd k a s) (seqK (evCode ap cf lo rd k b) Q) := by
  simp only [evCode]
  cases evCode ap cf lo rd k a s with
  | none => simp
  | some r => obtain ⟨x, s'⟩ := r; cases x <;> simp [seqK]
@[simp ↓] theorem hx_scope {b : AC} : Hx (evCode ap cf lo rd k (.scope b) s) Q = Hx (evCode ap cf lo rd k b s) Q := by simp only [evCode]
@[simp ↓] theorem hx_block {id : Nat} {b : AC} : Hx (evCode ap cf lo rd k (.block id b) s) Q = Hx (evCode ap cf lo rd k b s) (blkK id Q) := by
  simp only [evCode]
  cases evCode ap cf lo rd k b s with
  | none => simp
  | some r =>
    obtain ⟨x, s'⟩ := r
    cases x <;> try (simp [blkK]; done)
    rename_i i
    by_cases h : i = id <;> simp [h, blkK]
@[simp ↓] theorem hx_cond {c : Operand} {t e : AC} : Hx (evCode ap cf lo rd k (.cond c t e) s) Q = condK (opd s.env c) (Hx (evCode ap cf lo rd k t s) Q) (Hx (evCode ap cf lo rd k e s) Q) := by
  simp only [evCode]
  generalize opd s.env c = v
  cases v <;> try (simp [condK]; done)
  rename_i b
  cases b <;> simp [condK]
@[simp ↓] theorem hx_ops_nil {env : List AV} {H : AH} {Q : List AV × AH → Prop} : Hx (evOps ap cf lo [] env H) Q = Q (env, H) := by simp only [evOps, Hx_some]
@[simp ↓] theorem hx_ops {o : AO} {r : List AO} {env : List AV} {H : AH} {Q : List AV × AH → Prop} : Hx (evOps ap cf lo (o :: r) env H) Q = Hx (stepO ap cf lo o env H) (opsK ap cf lo r Q) := by
  simp only [evOps, stepO, Hx_bind]
  cases h : wantedA env o.guard o.want with
  | none => simp
  | some t => cases t <;> simp [Hx_map, Hx_bind] <;> rfl
@[congr] theorem evCode_congr {c : AC} {s' : St} (h : tag s = s') : evCode ap cf lo rd k c s = evCode ap cf lo rd k c s' := by cases h; rfl
end

/-! places of an environment -/
section
variable {a b c d e f g h v : AV} {l : List AV} {n : Nat}
theorem get_nil : get [] n = .undef := rfl
theorem get_0 : get (a :: l) 0 = a := rfl
theorem get_1 : get (a :: b :: l) 1 = b := rfl
theorem get_2 : get (a :: b :: c :: l) 2 = c := rfl
theorem get_3 : get (a :: b :: c :: d :: l) 3 = d := rfl
theorem get_4 : get (a :: b :: c :: d :: e :: l) 4 = e := rfl
theorem get_5 : get (a :: b :: c :: d :: e :: f :: l) 5 = f := rfl
theorem get_6 : get (a :: b :: c :: d :: e :: f :: g :: l) 6 = g := rfl
theorem get_7 : get (a :: b :: c :: d :: e :: f :: g :: h :: l) 7 = h := rfl
theorem get_8 : get (a :: b :: c :: d :: e :: f :: g :: h :: l) (n + 8) = get l n := by simp only [get, List.getElem?_cons_succ]
theorem set_0 : (a :: l).set 0 v = v :: l := rfl
theorem set_1 : (a :: b :: l).set 1 v = a :: v :: l := rfl
theorem set_2 : (a :: b :: c :: l).set 2 v = a :: b :: v :: l := rfl
theorem set_3 : (a :: b :: c :: d :: l).set 3 v = a :: b :: c :: v :: l := rfl
theorem set_4 : (a :: b :: c :: d :: e :: l).set 4 v = a :: b :: c :: d :: v :: l := rfl
theorem set_5 : (a :: b :: c :: d :: e :: f :: l).set 5 v = a :: b :: c :: d :: e :: v :: l := rfl
theorem set_6 : (a :: b :: c :: d :: e :: f :: g :: l).set 6 v = a :: b :: c :: d :: e :: f :: v :: l := rfl
theorem set_7 : (a :: b :: c :: d :: e :: f :: g :: h :: l).set 7 v = a :: b :: c :: d :: e :: f :: g :: v :: l := rfl
theorem set_8 : (a :: b :: c :: d :: e :: f :: g :: h :: l).set (n + 8) v = a :: b :: c :: d :: e :: f :: g :: h :: l.set n v := by simp only [List.set_cons_succ]
end
attribute [simp ↓] get_nil get_0 get_1 get_2 get_3 get_4 get_5 get_6 get_7 get_8 set_0 set_1 set_2 set_3 set_4 set_5 set_6 set_7 set_8
/-! functions -/
def retK (ap : AP) (rs : List ResultVar) (Q : AV × AH → Prop) (r : Ex × St) : Prop :=
  match r.1 with | .exit _ => False | _ => Hx (takeA r.2.marks r.2.H) fun H' => Hx (resA ap r.2.env H' rs) fun l => Q (resV l, H')
@[simp] theorem retK_normal {ap : AP} {rs : List ResultVar} {Q : AV × AH → Prop} {s : St} : retK ap rs Q (.normal, s) = Hx (takeA s.marks s.H) fun H' => Hx (resA ap s.env H' rs) fun l => Q (resV l, H') := propext ⟨fun h => h, fun h => h⟩
@[simp] theorem retK_ret {ap : AP} {rs : List ResultVar} {Q : AV × AH → Prop} {s : St} : retK ap rs Q (.ret, s) = Hx (takeA s.marks s.H) fun H' => Hx (resA ap s.env H' rs) fun l => Q (resV l, H') := propext ⟨fun h => h, fun h => h⟩
@[congr] theorem retK_congr {ap : AP} {rs : List ResultVar} {Q : AV × AH → Prop} {r r' : Ex × St} (h : tag r = r') : retK ap rs Q r = retK ap rs Q r' := by cases h; rfl
theorem hx_go {ap : AP} {k n lo nt : Nat} {rs : List ResultVar} {body : AC} (hf : ap.fn n = some ⟨nt, rs, body⟩) (hp : ap.prim n = none) (hgc : ap.gc n = false := by rfl) {first caps args : List AV} {H : AH} {Q : AV × AH → Prop} :
    Hx (callA ap (k + 1) (.func n first caps) args lo H) Q = Hx (evCode ap (callA ap k) lo none k body ⟨(first ++ args ++ caps) ++ List.replicate (nt - (first ++ args ++ caps).length) .undef, H, []⟩) (retK ap rs Q) := by
  simp only [callA, hp, fnA, hf, Option.bind_some, tag_eq, gcR, hgc, Bool.false_eq_true, if_false]
  rw [Hx_bind]
  congr 1
  funext r
  obtain ⟨x, s⟩ := r
  cases x with
  | exit i => simp [retK]
  | _ => exact Hx_bind.trans (congrArg (Hx _) (funext fun a => Hx_map))
theorem hx_call {ap : AP} {k n lo : Nat} {F : AFn} (hf : ap.fn n = some F) (hp : ap.prim n = none) (hgc : ap.gc n = false := by rfl) {first caps args : List AV} {H : AH} {Q : AV × AH → Prop} :
    Hx (callA ap (k + 1) (.func n first caps) args lo H) Q = Hx (evCode ap (callA ap k) lo none k F.body ⟨(first ++ args ++ caps) ++ List.replicate (F.ntmps - (first ++ args ++ caps).length) .undef, H, []⟩) (retK ap F.results Q) := by
  simp only [callA, hp, fnA, hf, Option.bind_some, tag_eq, gcR, hgc, Bool.false_eq_true, if_false]
  rw [Hx_bind]
  congr 1
  funext r
  obtain ⟨x, s⟩ := r
  cases x with
  | exit i => simp [retK]
  | _ => exact Hx_bind.trans (congrArg (Hx _) (funext fun a => Hx_map))
attribute [simp] stepO aoper callee wantedA opd setD mask ofV ofS abin aun takeA resA resV lenOf optAll abuiltin apT aload TD.isAgg part astore isU8 isSlice afill AV.cells splice
section
variable {ap : AP} {n : Nat} {x : AV} {a c : List AV}
@[simp] theorem extOf_f : extOf ap (.func n [] []) = ap.ext n := rfl
@[simp] theorem extOf_c : extOf ap (.func n a (x :: c)) = none := by cases a <;> rfl
@[simp] theorem extOf_a : extOf ap (.func n (x :: a) c) = none := rfl
@[simp] theorem extOf_y : extOf ap (.yield n) = none := rfl
end
def toStr (H : AH) : AV → Option AV
  | .slice none _ _ _ => some (.str .empty)
  | .slice (some p) len c s => if s = 1 then (firstC H 1 len (.slice (some p) len c s)).bind fun l => (numsAV l).map fun ns => AV.str (strN ns) else none
  | _ => none
def aconv1 (ap : AP) (lo : Nat) (H : AH) (sd : Bool) (s d : TD) (x : AV) : Option (AV × AH) :=
  match s, d with
  | .int _, .int k => match x with | .int _ n => some (.int k (k.wrap n), H) | _ => none
  | .string, .string => match x with | .str s => some (.str s, H) | _ => none
  | .string, .slice e => match x with
    | .str s => if isU8 ap e then some (.slice (some (H.length, 0)) s.size none 1, H ++ [.cells (s.data.toList.map fun b => AV.int .u8 b.toNat) .rw]) else none
    | _ => none
  | .slice e, .string => if isU8 ap e then (toStr H x).map fun v => (v, H) else none
  | .slice _, .slice e => match x with
    | .slice (some (b, o)) len cap s => if (sd && isU8 ap e) && 0 < len then (rowRw H lo b).map fun _ => (AV.slice (some (b, o)) len cap s, H) else none
    | _ => none
  | _, _ => none
@[simp] theorem aconvert_eq {ap : AP} {lo : Nat} {H : AH} {src dst : TypeId} {x : AV} : aconvert ap lo H src dst x = (ap.ty src).bind fun ts => (ap.ty dst).bind fun td => aconv1 ap lo H (src == dst) ts.td td.td x := by
  unfold aconvert
  cases ap.ty src with
  | none => rfl
  | some ts =>
    cases ap.ty dst with
    | none => rfl
    | some td =>
      simp only [Option.bind_some]
      have key : ∀ (e : Nat), (match TD.slice e, TD.string, x with
          | TD.int _, TD.int k, AV.int _ n => some (AV.int k (k.wrap n), H)
          | TD.slice e, TD.string, AV.slice a len _ s => if isU8 ap e then
              match a with
              | none => some (AV.str .empty, H)
              | some _ => if s = 1 then (firstC H 1 len x).bind fun l => (numsAV l).map fun ns => (AV.str (strN ns), H) else none
            else none
          | _, _, _ => none) = if isU8 ap e then (toStr H x).map fun v => (v, H) else none := fun e => by
        by_cases hu : isU8 ap e = true
        · cases x with
          | slice a len c s =>
            cases a with
            | none => simp only [hu, if_true, toStr, Option.map_some]
            | some p =>
              by_cases h1 : s = 1
              · subst h1
                simp only [hu, if_true, toStr, Option.map_bind, Function.comp_def, Option.map_map]
              · simp only [hu, if_true, toStr, h1, if_false, Option.map_none]
          | _ => simp only [hu, if_true, toStr, Option.map_none]
        · rw [if_neg hu]
          cases x <;> simp only [hu] <;> rfl
      cases ts.td with
      | slice e =>
        cases td.td with
        | string =>
          refine Eq.trans ?_ (key e)
          cases x <;> rfl
        | slice e' =>
          cases x with
          | slice a len c s => cases a <;> rfl
          | _ => rfl
        | _ => cases x <;> rfl
      | _ => cases td.td <;> cases x <;> rfl
@[simp] theorem aconv1_int {ap : AP} {lo : Nat} {H : AH} {sd : Bool} {j k k' : IntKind} {n : Int} : aconv1 ap lo H sd (.int j) (.int k) (.int k' n) = some (.int k (k.wrap n), H) := rfl
@[simp] theorem aconv1_str {ap : AP} {lo : Nat} {H : AH} {sd : Bool} {s : ByteArray} : aconv1 ap lo H sd .string .string (.str s) = some (.str s, H) := rfl
@[simp] theorem aconv1_bytes {ap : AP} {lo : Nat} {H : AH} {sd : Bool} {s : ByteArray} {e : Nat} : aconv1 ap lo H sd .string (.slice e) (.str s) = if isU8 ap e then some (.slice (some (H.length, 0)) s.size none 1, H ++ [.cells (s.data.toList.map fun b => AV.int .u8 b.toNat) .rw]) else none := rfl
@[simp] theorem aconv1_text {ap : AP} {lo : Nat} {H : AH} {sd : Bool} {x : AV} {e : Nat} : aconv1 ap lo H sd (.slice e) .string x = if isU8 ap e then (toStr H x).map fun v => (v, H) else none := rfl
@[simp] theorem aconv1_same {ap : AP} {lo : Nat} {H : AH} {sd : Bool} {b o len s e e' : Nat} {cap : Option Nat} : aconv1 ap lo H sd (.slice e') (.slice e) (.slice (some (b, o)) len cap s) = if (sd && isU8 ap e) && 0 < len then (rowRw H lo b).map fun _ => (AV.slice (some (b, o)) len cap s, H) else none := rfl
@[simp] theorem szOk_some {sz : Nat} {p : Nat × Nat} {n : Nat} {c : Option Nat} {s : Nat} : szOk sz (.slice (some p) n c s) = (s == sz) := rfl
@[simp] theorem szOk_none {sz n : Nat} {c : Option Nat} {s : Nat} : szOk sz (.slice none n c s) = true := rfl
@[simp] theorem szOk_str {sz : Nat} {s : ByteArray} : szOk sz (.str s) = (sz == 1) := rfl
@[simp] theorem firstC_some {H : AH} {sz n b o m : Nat} {c : Option Nat} {s : Nat} : firstC H sz n (.slice (some (b, o)) m c s) = (rowOf H b).bind fun l => if o + n * sz ≤ l.length then some ((l.drop o).take (n * sz)) else none := rfl
@[simp] theorem firstC_none {H : AH} {sz n m : Nat} {c : Option Nat} {s : Nat} : firstC H sz n (.slice none m c s) = some [] := rfl
@[simp] theorem firstC_str {H : AH} {sz n : Nat} {s : ByteArray} : firstC H sz n (.str s) = some ((s.data.toList.take n).map fun x => .int .u8 x.toNat) := rfl
@[simp] theorem one_int {k : IntKind} {n : Int} : AV.one (.int k n) = true := rfl
@[simp] theorem one_bool {b : Bool} : AV.one (.bool b) = true := rfl
@[simp] theorem one_str {b : ByteArray} : AV.one (.str b) = true := rfl
@[simp] theorem one_ptr {a : Option (Nat × Nat)} : AV.one (.ptr a) = true := rfl
@[simp] theorem one_slice {a : Option (Nat × Nat)} {n : Nat} {c : Option Nat} {s : Nat} : AV.one (.slice a n c s) = true := rfl

@[simp] theorem aop_move {ap : AP} {lo : Nat} {env : List AV} {H : AH} : ∀ x, aop ap lo env H (.move x) = (some (opd env x, H)) := fun _ => by simp only [aop]; try rfl
@[simp] theorem aop_assign {ap : AP} {lo : Nat} {env : List AV} {H : AH} : ∀ x, aop ap lo env H (.assign x) = (some (opd env x, H)) := fun _ => by simp only [aop]; try rfl
@[simp] theorem aop_pick {ap : AP} {lo : Nat} {env : List AV} {H : AH} : ∀ c a b, aop ap lo env H (.pick c a b) = (match opd env c with | .bool t => some (if t then opd env a else opd env b, H) | _ => none) := fun _ _ _ => by simp only [aop]; try rfl
@[simp] theorem aop_alloc {ap : AP} {lo : Nat} {env : List AV} {H : AH} : ∀ e, aop ap lo env H (.alloc e) = ((ap.ty e).map fun ti => (AV.ptr (some (H.length, 0)), H ++ [AB.cells ti.zero .rw])) := fun _ => by simp only [aop]; try rfl
@[simp] theorem aop_box {ap : AP} {lo : Nat} {env : List AV} {H : AH} : ∀ z1 x, aop ap lo env H (.box z1 x) = ((opd env x).cells.map fun cs => (AV.ptr (some (H.length, 0)), H ++ [AB.cells cs .rw])) := fun _ _ => by simp only [aop]; try rfl
@[simp] theorem aop_build {ap : AP} {lo : Nat} {env : List AV} {H : AH} : ∀ t parts, aop ap lo env H (.build t parts) = ((ap.ty t).bind fun ti =>
    match ti.td with
    | .struct fs => if fs.all (fun f => (ap.ty f.2).isSome) = false then none else (afill (fun i => (fs[i]?).bind fun f => (ap.ty f.2).map fun tf => (f.1, tf.sz)) ti.zero (parts.toList.map fun p => (p.1, opd env p.2))).map fun cs => (AV.agg cs, H)
    | .array _ e => (ap.ty e).bind fun te => (afill (fun i => some (i * te.sz, te.sz)) ti.zero (parts.toList.map fun p => (p.1, opd env p.2))).map fun cs => (AV.agg cs, H)
    | _ => none) := fun _ _ => by simp only [aop]; try rfl
@[simp] theorem aop_buildSlice {ap : AP} {lo : Nat} {env : List AV} {H : AH} : ∀ t len parts, aop ap lo env H (.buildSlice t len parts) = ((ap.ty t).bind fun ti =>
    match ti.td with
    | .slice e => (ap.ty e).bind fun te => if te.sz = 0 ∨ len * te.sz > 65536 then none else
      (afill (fun i => some (i * te.sz, te.sz)) (List.replicate len te.zero).flatten (parts.toList.map fun p => (p.1, opd env p.2))).map fun cs => (AV.slice (some (H.length, 0)) len (some len) te.sz, H ++ [AB.cells cs (if ap.pl then .pl else .rw)])
    | _ => none) := fun _ _ _ => by simp only [aop]; try rfl
@[simp] theorem aop_load {ap : AP} {lo : Nat} {env : List AV} {H : AH} : ∀ t a, aop ap lo env H (.load t a) = ((aload ap H t (opd env a)).map (·, H)) := fun _ _ => by simp only [aop]; try rfl
@[simp] theorem aop_store {ap : AP} {lo : Nat} {env : List AV} {H : AH} : ∀ t a x, aop ap lo env H (.store t a x) = ((astore ap lo H t (opd env a) (opd env x)).map fun h => (AV.undef, h)) := fun _ _ _ => by simp only [aop]; try rfl
@[simp] theorem aop_nilCheck {ap : AP} {lo : Nat} {env : List AV} {H : AH} : ∀ x, aop ap lo env H (.nilCheck x) = (match opd env x with
    | .ptr (some a) => some (.ptr (some a), H)
    | .func f a b => some (.func f a b, H)
    | .yield l => some (.yield l, H)
    | .slice a n c s => some (.slice a n c s, H)
    | _ => none) := fun _ => by simp only [aop]; try rfl
@[simp] theorem aop_binOp {ap : AP} {lo : Nat} {env : List AV} {H : AH} : ∀ op t x y z1, aop ap lo env H (.binOp op t x y z1) = ((abin ap op t (opd env x) (opd env y)).map (·, H)) := fun _ _ _ _ _ => by simp only [aop]; try rfl
@[simp] theorem aop_unOp {ap : AP} {lo : Nat} {env : List AV} {H : AH} : ∀ op z1 x, aop ap lo env H (.unOp op z1 x) = ((aun op (opd env x)).map (·, H)) := fun _ _ _ => by simp only [aop]; try rfl
@[simp] theorem aop_convert {ap : AP} {lo : Nat} {env : List AV} {H : AH} : ∀ s d x, aop ap lo env H (.convert s d x) = (aconvert ap lo H s d (opd env x)) := fun _ _ _ => by simp only [aop]; try rfl
@[simp] theorem aop_makeInterface {ap : AP} {lo : Nat} {env : List AV} {H : AH} : ∀ t x, aop ap lo env H (.makeInterface t x) = ((ap.ty t).bind fun ti => match ti.td with | .iface | .other => none | _ => some (.iface t (opd env x), H)) := fun _ _ => by simp only [aop]; try rfl
@[simp] theorem aop_makeFunc {ap : AP} {lo : Nat} {env : List AV} {H : AH} : ∀ f first caps, aop ap lo env H (.makeFunc (.func f) first caps) = (some (.func f (first.toList.map (opd env)) (caps.toList.map (opd env)), H)) := fun _ _ _ => by simp only [aop]; try rfl
@[simp] theorem aop_slice {ap : AP} {lo : Nat} {env : List AV} {H : AH} : ∀ t x lo' hi mx, aop ap lo env H (.slice t x lo' hi mx) = ((ap.ty t).bind fun ti =>
    match ti.td with
    | .slice e => (ap.ty e).bind fun te => if te.sz = 0 then none else if isSlice (opd env x) then (aslice H te.sz (opd env x) (optAll env lo') (optAll env hi) (optAll env mx)).map (·, H) else none
    | .string => if isSlice (opd env x) then none else (aslice H 1 (opd env x) (optAll env lo') (optAll env hi) (optAll env mx)).map (·, H)
    | _ => none) := fun _ _ _ _ _ => by simp only [aop]; try rfl
@[simp] theorem aop_fieldAddr {ap : AP} {lo : Nat} {env : List AV} {H : AH} : ∀ t x f, aop ap lo env H (.fieldAddr t x f) = ((ap.ty t).bind fun ti =>
    match ti.td, opd env x with
    | .struct fs, .ptr (some (b, o)) => (fs[f]?).bind fun fd => (ap.ty fd.2).bind fun tf => if tf.sz = 0 then none else some (.ptr (some (b, o + fd.1)), H)
    | _, _ => none) := fun _ _ _ => by simp only [aop]; try rfl
@[simp] theorem aop_field {ap : AP} {lo : Nat} {env : List AV} {H : AH} : ∀ t x f, aop ap lo env H (.field t x f) = ((ap.ty t).bind fun ti =>
    match ti.td, opd env x with
    | .struct fs, .agg l => (fs[f]?).bind fun fd => (ap.ty fd.2).bind fun tf => (part tf.td.isAgg tf.sz l fd.1).map (·, H)
    | _, _ => none) := fun _ _ _ => by simp only [aop]; try rfl
@[simp] theorem aop_indexAddr {ap : AP} {lo : Nat} {env : List AV} {H : AH} : ∀ t x i, aop ap lo env H (.indexAddr t x i) = ((ap.ty t).bind fun ti =>
    match ti.td, opd env x, opd env i with
    | .slice e, .slice (some (b, o)) len _ s, .int _ i => (ap.ty e).bind fun te => if s = te.sz ∧ 0 ≤ i ∧ i < len then some (.ptr (some (b, o + i.toNat * te.sz)), H) else none
    | .array n e, .ptr (some (b, o)), .int _ i => (ap.ty e).bind fun te => if 0 ≤ i ∧ i < n then some (.ptr (some (b, o + i.toNat * te.sz)), H) else none
    | _, _, _ => none) := fun _ _ _ => by simp only [aop]; try rfl
@[simp] theorem aop_index {ap : AP} {lo : Nat} {env : List AV} {H : AH} : ∀ t x i, aop ap lo env H (.index t x i) = ((ap.ty t).bind fun ti =>
    match ti.td, opd env x, opd env i with
    | .string, .str s, .int _ i => if 0 ≤ i then (s.data.toList[i.toNat]?).map fun c => (AV.int .u8 c.toNat, H) else none
    | .array n e, .agg l, .int _ i => (ap.ty e).bind fun te => if 0 ≤ i ∧ i < n then (part te.td.isAgg te.sz l (i.toNat * te.sz)).map (·, H) else none
    | _, _, _ => none) := fun _ _ _ => by simp only [aop]; try rfl
@[simp] theorem aop_extract {ap : AP} {lo : Nat} {env : List AV} {H : AH} : ∀ x i, aop ap lo env H (.extract x i) = (match opd env x with | .tuple l => (l[i]?).map (·, H) | _ => none) := fun _ _ => by simp only [aop]; try rfl
@[simp] theorem aop_builtin {ap : AP} {lo : Nat} {env : List AV} {H : AH} : ∀ (b : Builtin) (args : Array Operand) (ts : Array TypeId), aop ap lo env H (.call ⟨.builtin b, args, ts⟩) = abuiltin ap lo H b ts (args.toList.map (opd env)) := fun _ _ _ => by simp only [aop]; try rfl

/-! numbers, with names -/
def iand (k : IntKind) (x y : Int) : Int := k.wrap (BitVec.ofInt k.bits x &&& BitVec.ofInt k.bits y).toNat
def ior (k : IntKind) (x y : Int) : Int := k.wrap (BitVec.ofInt k.bits x ||| BitVec.ofInt k.bits y).toNat
def ixor (k : IntKind) (x y : Int) : Int := k.wrap (BitVec.ofInt k.bits x ^^^ BitVec.ofInt k.bits y).toNat
def ishl (k : IntKind) (x y : Int) : Int := k.wrap (x * 2 ^ (min y.toNat k.bits))
def ishr (k : IntKind) (x y : Int) : Int := x.fdiv (2 ^ (min y.toNat k.bits))
section
variable {k : IntKind} {x y : Int}
@[simp] theorem arith_add : arith .add k x y = some (.int k (k.wrap (x + y))) := rfl
@[simp] theorem arith_sub : arith .sub k x y = some (.int k (k.wrap (x - y))) := rfl
@[simp] theorem arith_mul : arith .mul k x y = some (.int k (k.wrap (x * y))) := rfl
@[simp] theorem arith_quo : arith .quo k x y = if y = 0 then none else some (.int k (k.wrap (x.tdiv y))) := rfl
@[simp] theorem arith_rem : arith .rem k x y = if y = 0 then none else some (.int k (x.tmod y)) := rfl
@[simp] theorem arith_and : arith .and k x y = some (.int k (iand k x y)) := rfl
@[simp] theorem arith_or : arith .or k x y = some (.int k (ior k x y)) := rfl
@[simp] theorem arith_xor : arith .xor k x y = some (.int k (ixor k x y)) := rfl
@[simp] theorem arith_eql : arith .eql k x y = some (.bool (decide (x = y))) := rfl
@[simp] theorem arith_neq : arith .neq k x y = some (.bool (!decide (x = y))) := rfl
@[simp] theorem arith_lss : arith .lss k x y = some (.bool (decide (x < y))) := rfl
@[simp] theorem arith_leq : arith .leq k x y = some (.bool (decide (x ≤ y))) := rfl
@[simp] theorem arith_gtr : arith .gtr k x y = some (.bool (decide (x > y))) := rfl
@[simp] theorem arith_geq : arith .geq k x y = some (.bool (decide (x ≥ y))) := rfl
@[simp] theorem strOp_eql {x y : ByteArray} : strOp .eql x y = some (.bool (x.toList == y.toList)) := rfl
@[simp] theorem strOp_neq {x y : ByteArray} : strOp .neq x y = some (.bool (!(x.toList == y.toList))) := rfl
@[simp] theorem strOp_add {x y : ByteArray} : strOp .add x y = if ((x.size + y.size : Nat) : Int) > 9223372036854775807 then none else some (.str (x ++ y)) := rfl
@[simp] theorem shift_shl : shift .shl k x y = if y < 0 then none else some (.int k (ishl k x y)) := rfl
@[simp] theorem shift_shr : shift .shr k x y = if y < 0 then none else some (.int k (ishr k x y)) := rfl
end
theorem wrap_i64 {x : Int} (h1 : -9223372036854775808 ≤ x) (h2 : x ≤ 9223372036854775807) : IntKind.i64.wrap x = x := by
  simp only [IntKind.wrap, IntKind.bits, IntKind.signed]
  simp
  omega

/-- A loop, by what decreases. -/
theorem loop_rule {α : Type} {g : St → Option (Ex × St)} {M : St → St} (st : α → St) (m : α → Nat) (I : α → Prop) (R : α → Ex × St → Prop)
    (hs : ∀ a, I a → Hx (g (st a)) fun r => (r.1 = .normal ∧ ∃ a', M r.2 = st a' ∧ I a' ∧ m a' < m a ∧ ∀ q, R a' q → R a q) ∨ (r.1 ≠ .normal ∧ R a r)) :
    ∀ (k : Nat) (a : α) (s : St), m a < k → I a → M s = st a → Hx (evLoop (fun s => g (M s)) k s) (R a)
  | 0, a, s, h, _, _ => by omega
  | k + 1, a, s, h, hI, hM => by
    have h1 := hs a hI
    simp only [evLoop, hM]
    obtain ⟨r, e, h2⟩ := Hx_iff.1 h1
    rw [e]
    obtain ⟨x, s'⟩ := r
    rcases h2 with ⟨h2, a', h3, h4, h5, h6⟩ | ⟨h2, h3⟩
    · simp only at h2
      subst h2
      simp only [Option.bind_some]
      exact (loop_rule st m I R hs k a' s' (by omega) h4 h3).mono fun q hq => h6 q hq
    · simp only at h2
      cases x with
      | normal => exact absurd rfl h2
      | exit i => simpa using h3
      | ret => simpa using h3
/-- A loop that counts: rounds 0 to n-1, then out. -/
theorem loop_for {g : St → Option (Ex × St)} {M : St → St} (st : Nat → St) (n : Nat) {Q : Ex × St → Prop}
    (hs : ∀ i, i < n → Hx (g (st i)) fun r => r.1 = .normal ∧ M r.2 = st (i + 1)) (he : Hx (g (st n)) fun r => r.1 ≠ .normal ∧ Q r) {k : Nat} {s : St} (hk : n < k) (h0 : M s = st 0) :
    Hx (evLoop (fun s => g (M s)) k s) Q := by
  refine loop_rule (α := Nat) (fun j => st (n - j)) (fun j => j) (fun j => j ≤ n) (fun _ => Q) (fun j hj => ?_) k n s hk (Nat.le_refl n) (by simpa using h0)
  cases j with
  | zero => exact he.mono fun r h => .inr h
  | succ j =>
    refine (hs (n - (j + 1)) (by omega)).mono fun r h => .inl ⟨h.1, j, ?_, by omega, by omega, fun q h => h⟩
    rw [h.2, show n - (j + 1) + 1 = n - j by omega]

section
variable {ap : AP} {cf : CallF} {lo k : Nat} {rd : Option Nat} {keep : List Bool} {b : AC} {s : St}
def maskS (keep : List Bool) (s : St) : St := ⟨mask keep s.env, s.H, s.marks⟩
theorem hx_for (st : Nat → St) (n : Nat) {Q : Ex × St → Prop}
    (hs : ∀ i, i < n → Hx (evCode ap cf lo rd k b (st i)) fun r => r.1 = .normal ∧ maskS keep r.2 = st (i + 1)) (he : Hx (evCode ap cf lo rd k b (st n)) fun r => r.1 ≠ .normal ∧ Q r) (hk : n < k) (h0 : maskS keep s = st 0) :
    Hx (evCode ap cf lo rd k (.loop keep b) s) Q := by
  simp only [evCode]
  exact loop_for (g := evCode ap cf lo rd k b) (M := maskS keep) st n hs he hk h0
theorem hx_while {α : Type} (st : α → St) (m : α → Nat) (I : α → Prop) (R : α → Ex × St → Prop) {a : α}
    (hs : ∀ a, I a → Hx (evCode ap cf lo rd k b (st a)) fun r => (r.1 = .normal ∧ ∃ a', maskS keep r.2 = st a' ∧ I a' ∧ m a' < m a ∧ ∀ q, R a' q → R a q) ∨ (r.1 ≠ .normal ∧ R a r)) (hk : m a < k) (hI : I a) (h0 : maskS keep s = st a) :
    Hx (evCode ap cf lo rd k (.loop keep b) s) (R a) := by
  simp only [evCode]
  exact loop_rule (g := evCode ap cf lo rd k b) (M := maskS keep) st m I R hs k a s hk hI h0
end

/-! bytes -/
def u8s (bs : List Int) : List AV := bs.map (AV.int .u8)
@[simp] theorem u8s_length {bs : List Int} : (u8s bs).length = bs.length := by simp [u8s]
/-- A slice of bytes, and where it lies. -/
inductive BS (H : AH) : AV → List Int → Prop
  | nil (c : Option Nat) (s : Nat) : BS H (.slice none 0 c s) []
  | at_ (b o n : Nat) (c : Option Nat) (l : List AV) (bs : List Int) (h1 : rowOf H b = some l) (h2 : o + n ≤ l.length) (h3 : (l.drop o).take n = u8s bs) (h4 : bs.length = n) : BS H (.slice (some (b, o)) n c 1) bs
theorem BS.get {H : AH} {a : Option (Nat × Nat)} {n : Nat} {c : Option Nat} {s : Nat} {bs : List Int} (h : BS H (.slice a n c s) bs) : ∀ i, i < bs.length → ∃ b o l, a = some (b, o) ∧ s = 1 ∧ rowOf H b = some l ∧ l[o + i]? = some (.int .u8 (bs.getD i 0)) := by
  intro i hi
  cases h with
  | nil => simp at hi
  | at_ b o n c l bs h1 h2 h3 h4 =>
    refine ⟨b, o, l, rfl, rfl, h1, ?_⟩
    have : ((l.drop o).take bs.length)[i]? = (u8s bs)[i]? := by rw [← h4] at h3; rw [h3]
    rw [List.getElem?_take_of_lt hi, List.getElem?_drop] at this
    rw [this]
    simp [u8s, hi]
theorem BS.slice {H : AH} {v : AV} {bs : List Int} (h : BS H v bs) : ∃ a c s, v = .slice a bs.length c s := by cases h <;> simp_all
abbrev U : AV := .undef
theorem BS.first {H : AH} {v : AV} {bs : List Int} (h : BS H v bs) : firstC H 1 bs.length v = some (u8s bs) := by
  cases h with
  | nil => rfl
  | at_ b o n c l bs h1 h2 h3 h4 => simp [firstC, h1, h4, h2, h3]
theorem BS.app {H : AH} {v : AV} {bs : List Int} (h : BS H v bs) (X : AH) : BS (H ++ X) v bs := by
  cases h with
  | nil c s => exact .nil c s
  | at_ b o n c l bs h1 h2 h3 h4 =>
    refine .at_ b o n c l bs ?_ h2 h3 h4
    unfold rowOf at h1 ⊢
    have hb : b < H.length := by
      rcases Nat.lt_or_ge b H.length with h | h
      · exact h
      · rw [List.getElem?_eq_none h] at h1; simp at h1
    rw [List.getElem?_append_left hb]; exact h1
theorem BS.sz {H : AH} {a : Option (Nat × Nat)} {n : Nat} {c : Option Nat} {s : Nat} {bs : List Int} (h : BS H (.slice a n c s) bs) : szOk 1 (.slice a n c s) = true := by cases h <;> rfl
theorem BS.inj {H : AH} {v : AV} {bs cs : List Int} (h : BS H v bs) (k : BS H v cs) : bs = cs := by
  have h1 := h.first
  have h2 := k.first
  obtain ⟨a, c, s, rfl⟩ := h.slice
  obtain ⟨a', c', s', e⟩ := k.slice
  injection e with _ e _ _
  rw [← e] at h2
  rw [h2] at h1
  have := (Option.some.inj h1).symm
  unfold u8s at this
  exact (List.map_inj_right (fun x y h => by injection h)).1 this
@[simp] theorem u8s_one {bs : List Int} : (u8s bs).all AV.one = true := by simp [u8s, AV.one]
theorem u8s_app {a b : List Int} : u8s (a ++ b) = u8s a ++ u8s b := by simp [u8s]
theorem BS.new {H X : AH} {bs : List Int} {md : Md} (hmd : md = .rw ∨ md = .ro) {i : Nat} (hX : X[i]? = some (.cells (u8s bs) md)) {n : Nat} (hn : n = bs.length) {c : Option Nat} {b : Nat} (hb : b = H.length + i) : BS (H ++ X) (.slice (some (b, 0)) n c 1) bs := by
  subst hb
  refine .at_ _ _ _ _ (u8s bs) _ ?_ (by simp [hn]) (by rw [hn, List.drop_zero, ← u8s_length, List.take_length]) hn.symm
  unfold rowOf
  rw [List.getElem?_append_right (by omega), Nat.add_sub_cancel_left, hX]
  rcases hmd with rfl | rfl <;> rfl

/-! the newer part of the heap -/
section
variable {H X : AH} {lo i : Nat} {A : AB}
@[simp] theorem rowOf_new0 : rowOf (H ++ X) H.length = rowOf X 0 := by simp [rowOf, List.getElem?_append_right]
@[simp] theorem rowOf_new : rowOf (H ++ X) (H.length + i) = rowOf X i := by simp [rowOf, List.getElem?_append_right]
theorem rowRw_new0 (h : lo ≤ H.length) : rowRw (H ++ X) lo H.length = rowRw X 0 0 := by simp [rowRw, List.getElem?_append_right, show ¬ H.length < lo by omega]
theorem rowRw_new (h : lo ≤ H.length) : rowRw (H ++ X) lo (H.length + i) = rowRw X 0 i := by simp [rowRw, List.getElem?_append_right, show ¬ H.length + i < lo by omega]
@[simp] theorem set_new0 : (H ++ X).set H.length A = H ++ X.set 0 A := by simp [List.set_append_right]
@[simp] theorem set_new : (H ++ X).set (H.length + i) A = H ++ X.set i A := by simp [List.set_append_right]
@[simp] theorem rowOf_c0 {l : List AV} : rowOf (.cells l .rw :: X) 0 = some l := rfl
@[simp] theorem rowOf_r0 {l : List AV} : rowOf (.cells l .ro :: X) 0 = some l := rfl
@[simp] theorem rowOf_succ {A : AB} : rowOf (A :: X) (i + 1) = rowOf X i := by simp [rowOf]
@[simp] theorem rowRw_c0 {l : List AV} : rowRw (.cells l .rw :: X) 0 0 = some l := rfl
@[simp] theorem rowRw_succ {A : AB} : rowRw (A :: X) 0 (i + 1) = rowRw X 0 i := by simp [rowRw]
end
@[simp] theorem u8s_ex {bs : List Int} : (∃ x, x ∈ u8s bs ∧ x.one = false) = False := by
  simp only [u8s, List.mem_map, eq_iff_iff, iff_false]
  rintro ⟨x, ⟨n, _, rfl⟩, h⟩
  cases h
theorem u8s_drop {bs : List Int} {n : Nat} : (u8s bs).drop n = u8s (bs.drop n) := by simp [u8s, List.map_drop]
theorem u8s_take {bs : List Int} {n : Nat} : (u8s bs).take n = u8s (bs.take n) := by simp [u8s, List.map_take]
/-- Append where there is room. -/
theorem append_in {H X : AH} {lo n cap : Nat} {bs rest cs : List Int} {x : AV} (hlo : lo ≤ H.length) (hx : BS (H ++ .cells (u8s (bs ++ rest)) .rw :: X) x cs) (hn : n = bs.length) (hc : n + cs.length ≤ cap) (hr : cs.length ≤ rest.length) :
    aappend lo (H ++ .cells (u8s (bs ++ rest)) .rw :: X) 1 1 (.slice (some (H.length, 0)) n (some cap) 1) x = some (.slice (some (H.length, 0)) (n + cs.length) (some cap) 1, H ++ .cells (u8s (bs ++ cs ++ rest.drop cs.length)) .rw :: X) := by
  have hf := hx.first
  obtain ⟨a, c, s, rfl⟩ := hx.slice
  have hs := hx.sz
  subst hn
  unfold aappend
  simp only [szOk_some, hs, lenOf, Option.bind_some, hf]
  by_cases h0 : cs = []
  · subst h0; simp
  · have : cs.length ≠ 0 := by simpa using h0
    simp [h0, rowRw_new0 hlo, hc, show bs.length + cs.length ≤ bs.length + rest.length by omega]
    rw [u8s_take, u8s_drop, List.take_left' rfl, List.drop_append, List.drop_eq_nil_of_le (by omega), List.nil_append, Nat.add_sub_cancel_left]
    simp [u8s_app]
/-- Append where there is none: a new row. -/
theorem append_new {H : AH} {lo n m : Nat} {a : Option (Nat × Nat)} {c s : Nat} {bs cs : List Int} {x : AV} (hv : BS H (.slice a n (some c) s) bs) (hx : BS H x cs) (hn : n = bs.length) (hc : c < n + cs.length) (h0 : cs ≠ []) (hr : n + cs.length ≤ room) (hm : m = n + cs.length) :
    aappend lo H 1 1 (.slice a n (some c) s) x = some (.slice (some (H.length, 0)) m none 1, H ++ [.cells (u8s (bs ++ cs)) .rw]) := by
  have hf := hx.first
  obtain ⟨a', c', s', rfl⟩ := hx.slice
  have hs := hx.sz
  have hs' := hv.sz
  subst hm
  have h1 : cs.length ≠ 0 := by simpa using h0
  unfold aappend
  simp only [hs', hs, lenOf, Option.bind_some, hf]
  cases hv with
  | nil => simp [h0] at hr ⊢; exact hr
  | at_ b o n c l bs g1 g2 g3 g4 =>
    simp [h0, g1, g2, show ¬ n + cs.length ≤ c by omega, hr, u8s_app]
    rw [g3]
/-- Append to a row of one's own, of which it is not known how many more it takes. -/
theorem append_own {H : AH} {lo n m b : Nat} {bs cs : List Int} {x : AV} (hb : H[b]? = some (.cells (u8s bs) .rw)) (hlo : lo ≤ b) (hx : BS H x cs) (hn : n = bs.length) (h0 : cs ≠ []) (hr : n + cs.length ≤ room) (hm : m = n + cs.length) :
    aappend lo H 1 1 (.slice (some (b, 0)) n none 1) x = some (.slice (some (H.length, 0)) m none 1, H.set b (.cells [] .dead) ++ [.cells (u8s (bs ++ cs)) .rw]) := by
  have hf := hx.first
  obtain ⟨a', c', s', rfl⟩ := hx.slice
  have hs := hx.sz
  subst hm
  have h1 : cs.length ≠ 0 := by simpa using h0
  have hro : rowOf H b = some (u8s bs) := by simp [rowOf, hb]
  have hrw : rowRw H lo b = some (u8s bs) := by simp [rowRw, hb, show ¬ b < lo by omega]
  have hpos : 0 < cs.length := by omega
  unfold aappend
  simp only [szOk_some, hs, lenOf, Option.bind_some, hf]
  simp [h0, hro, hrw, hn, show ¬ bs.length + cs.length ≤ bs.length by omega, u8s_app]
  have h2 : bs.length + cs.length ≤ room := by omega
  have h3 : (u8s bs).take bs.length = u8s bs := by rw [u8s_take, List.take_length]
  simp [h2, h3]
/-! new rows -/
/-- Can a row of so many be made? -/
def canMake (n m : Int) (by_ sz : Nat) : Prop := 0 ≤ n ∧ n ≤ m ∧ m * by_ ≤ room ∧ m ≤ 9223372036854775807 ∧ 0 < sz
instance canMake_dec {n m : Int} {by_ sz : Nat} : Decidable (canMake n m by_ sz) := by unfold canMake; infer_instance
def mkS (ap : AP) (H : AH) (t : Option TI) (l c : AV) : Option (AV × AH) :=
  t.bind fun ti => match ti.td with
  | .slice e => (ap.ty e).bind fun te => match l, c with
    | .int .i64 n, .int .i64 m => if canMake n m te.by_ te.sz then some (.slice (some (H.length, 0)) n.toNat (some m.toNat) te.sz, H ++ [.cells (List.replicate m.toNat te.zero).flatten .rw]) else none
    | _, _ => none
  | _ => none
@[simp] theorem aop_mk {ap : AP} {lo : Nat} {env : List AV} {H : AH} {t : Nat} {l c : Operand} : aop ap lo env H (.makeSlice t l c) = mkS ap H (ap.ty t) (opd env l) (opd env c) := by
  rw [aop]
  unfold mkS canMake
  rfl
attribute [simp] mkS
end Go.Ab
end
section
/-! From the abstract reading to the model's calls: arguments that are read. -/
set_option linter.unusedVariables false
set_option linter.unusedSimpArgs false
namespace Go.Ab
open Go.RowKit
theorem Rel.empty (hp : Array Obj) : Rel (fun _ => none) [] hp := ⟨fun _ _ h => (by cases h), fun _ _ _ _ _ _ h => (by cases h)⟩
def NoOwn (H : AH) : Prop := ∀ A ∈ H, A.own = false
theorem noOwn_nil : NoOwn [] := fun _ h => by cases h
theorem NoOwn.ro {H : AH} (h : NoOwn H) (l : List AV) : NoOwn (H ++ [.cells l .ro]) := fun A hA => by
  rcases List.mem_append.1 hA with hA | hA
  · exact h A hA
  · simp at hA; subst hA; rfl
/-- A block more that is only read. -/
theorem Rel.ro {φ : Inj} {H : AH} {hp : Array Obj} (h : Rel φ H hp) (hn : NoOwn H) {p : PL} {l : List AV} {O : Obj} (ho : hp[p.blk]? = some O) (hb : BR (upd φ H.length p) p (.cells l .ro) O) : Rel (upd φ H.length p) (H ++ [.cells l .ro]) hp where
  blk := fun b q e => by
    unfold upd at e
    split at e
    · rename_i hb'; subst hb'; cases e
      exact ⟨_, O, by simp, ho, hb⟩
    · obtain ⟨A, O', h1, h2, h3⟩ := h.blk b q e
      exact ⟨A, O', by rw [List.getElem?_append_left (h.lt e)]; exact h1, h2, h3.mono (h.upd_le _)⟩
  excl := fun b q A b' q' A' e1 e2 e3 => by
    have := (hn.ro l) A (List.mem_of_getElem? e2)
    rw [this] at e3; cases e3
theorem below_of {φ φ' : Inj} {H H' : AH} {w w' : World} (hn : NoOwn H) (h : SimW φ H w φ' H' w') : Below w.heap.size w w' :=
  ⟨h.str.1, h.str.2.1, h.str.2.2, h.size, fun k hk => h.frame k hk fun b p A _ e2 e3 => by
    have := hn A (List.mem_of_getElem? e2)
    rw [this] at e3; cases e3⟩
/-- A call, asx it was reckoned. -/
theorem calls_ab {P : Program} {ap : AP} (hg : Agree P ap) {k n lo : Nat} {φ : Inj} {H H' : AH} {w : World} {args : List AV} {args' : Array Value} {v : AV} (hp : ap.prim n = none) (h : callA ap k (.func n [] []) args lo H = some (v, H')) (hr : Rel φ H w.heap) (hn : NoOwn H) (he : ER φ args args') :
    Calls P n args' w fun e w' => (∃ v' φ', e = .returned v' ∧ VR φ' v v') ∧ Below w.heap.size w w' := by
  cases k with
  | zero => simp only [callA] at h; cases h
  | succ k =>
    simp only [callA, hp, List.nil_append, List.append_nil] at h
    refine ((callsIn_wide (n := 0)).1 ((sound_fn hg (sound_call hg k) h hr he).2 0)).mono ?_
    rintro e w' ⟨v', φ', h1, h2, h3⟩
    exact ⟨⟨v', φ', h1, h3⟩, below_of hn h2⟩
theorem calls_true {P : Program} {ap : AP} (hg : Agree P ap) {k n lo : Nat} {φ : Inj} {H H' : AH} {w : World} {args : List AV} {args' : Array Value} (hp : ap.prim n = none) (h : callA ap k (.func n [] []) args lo H = some (.bool true, H')) (hr : Rel φ H w.heap) (hn : NoOwn H) (he : ER φ args args') :
    Calls P n args' w fun e w' => e = .returned (.bool true) ∧ Below w.heap.size w w' := by
  refine (calls_ab hg hp h hr hn he).mono ?_
  rintro e w' ⟨⟨v', φ', rfl, h1⟩, h2⟩
  cases h1
  exact ⟨rfl, h2⟩

/-! an argument that is a slice of numbers -/
def LiesAt (w : World) (x : Addr) : Prop := x.spot = none ∧ ∃ c e fr, w.heap[x.block]? = some (.cells c e fr)
theorem liesAt_of {P : Program} {W : World} {r : Reach} {base : Nat} {t e : TypeId} {x : Addr} {len cap : Nat} (hu : P.underlying t = some (.slice e)) (h : Value.okWide P W r base t (.slice (some x) len cap)) : LiesAt W x := by
  simp only [Value.okWide, hu, Cell.okWide, Cell.ok, World.has] at h
  obtain ⟨_, _, _, h1, row, cells, h2, _⟩ := h
  refine ⟨h1, ?_⟩
  unfold World.shape? at h2
  split at h2
  · rename_i c e fr h3; exact ⟨c, e, fr, h3⟩
  · cases h2
def nums (k : IntKind) (zs : List Int) : List AV := zs.map (AV.int k)
/-- A row of numbers, at an address. -/
theorem rel_nums {φ : Inj} {H : AH} {w : World} (h : Rel φ H w.heap) (hn : NoOwn H) {k : IntKind} {x : Addr} {zs : List Int} (hx : LiesAt w x) (hc : ∀ i, i < zs.length → w.cell? (x.add i) = some (.int k (zs.getD i 0))) {len : Nat} (hl : len ≤ zs.length) :
    ∃ p : PL, Rel (upd φ H.length p) (H ++ [.cells (nums k zs) .ro]) w.heap ∧ φ.le (upd φ H.length p) ∧ VR (upd φ H.length p) (.slice (some (H.length, 0)) len (some zs.length) 1) (.slice (some x) len zs.length) := by
  obtain ⟨hs, c, e, fr, ho⟩ := hx
  obtain ⟨xb, xo, xs⟩ := x
  simp only at hs ho
  subst hs
  have cell : ∀ i, i < zs.length → c[xo + i]? = some (.int k (zs.getD i 0)) := fun i hi => by
    have := hc i hi
    rw [← this]
    unfold Addr.add
    split
    · rename_i h0; subst h0; simp [World.cell?, ho]
    · simp [World.cell?, ho]
  by_cases h0 : zs = []
  · subst h0
    refine ⟨⟨xb, 0, c.size⟩, h.ro hn ho (.cells _ _ c e fr rfl (by simp [nums]) (fun i a hi => by simp [nums] at hi) (fun q => by cases q) (fun q => by cases q)), h.upd_le _, ?_⟩
    exact .slice _ _ _ _ _ _ _ _ (upd_self _ _ _) (.inr rfl) hl (by simp) (.inl ⟨_, rfl, rfl⟩)
  · have hpos : 0 < zs.length := List.length_pos_iff.2 h0
    have hlast := cell (zs.length - 1) (by omega)
    have hsz : xo + zs.length ≤ c.size := by
      have := (Array.getElem?_eq_some_iff.1 hlast).1
      omega
    refine ⟨⟨xb, xo, c.size⟩, h.ro hn ho (.cells _ _ c e fr rfl (by simp [nums]; omega) (fun i a hi => ?_) (fun q => by cases q) (fun q => by cases q)), h.upd_le _, ?_⟩
    · have hi' : i < zs.length := by
        have := (List.getElem?_eq_some_iff.1 hi).1
        simpa [nums] using this
      refine ⟨_, cell i hi', ?_⟩
      simp only [nums, List.getElem?_map] at hi
      rw [List.getElem?_eq_getElem hi'] at hi
      simp only [Option.map_some, Option.some.injEq] at hi
      subst hi
      simp [hi']
      exact .int _ _
    · refine .slice _ _ _ _ _ _ _ _ (upd_self _ _ _) (.inl ?_) hl (by show xo + 0 + zs.length * 1 ≤ c.size; omega) (.inl ⟨_, rfl, rfl⟩)
      simp
theorem bs_nums {H X : AH} {zs : List Int} {len : Nat} (hl : len ≤ zs.length) {c : Option Nat} : BS (H ++ [.cells (nums .u8 zs) .ro] ++ X) (.slice (some (H.length, 0)) len c 1) (zs.take len) := by
  refine .at_ _ _ _ _ (nums .u8 zs) _ ?_ (by simp [nums, hl]) (by simp [nums, u8s, List.map_take]) (by simp [hl])
  simp [rowOf]
theorem er_one_ {φ : Inj} {a : AV} {v : Value} (h : VR φ a v) : ER φ [a] #[v] := ⟨rfl, fun i x y h1 h2 => by
  cases i with
  | zero => simp at h1 h2; subst h1; subst h2; exact h
  | succ i => simp at h1⟩
theorem er_cons {φ : Inj} {a : AV} {v : Value} {l : List AV} {c : Array Value} (h : VR φ a v) (hl : ER φ l c) : ER φ (a :: l) (#[v] ++ c) := er_append (er_one_ h) hl
end Go.Ab
end
section
/-! Numbers. -/
set_option linter.unusedVariables false
set_option linter.unusedSimpArgs false
namespace Go.Ab
theorem wrap_u8 (x : Int) : IntKind.u8.wrap x = x % 256 := by
  simp [IntKind.wrap, IntKind.bits, IntKind.signed]
theorem wrap_and255 {n : Nat} (h : n < 4294967296) : IntKind.u8.wrap (iand .u32 n 255) = IntKind.u8.wrap n := by
  have h1 : (BitVec.ofInt 32 (n : Int) &&& BitVec.ofInt 32 255).toNat = n % 256 := by
    rw [BitVec.toNat_and]
    have : (BitVec.ofInt 32 (n : Int)).toNat = n := by simp [BitVec.toNat_ofInt]; omega
    rw [this]
    exact Nat.and_two_pow_sub_one_eq_mod n 8
  rw [wrap_u8, wrap_u8]
  unfold iand
  show (IntKind.u32.wrap ((BitVec.ofInt 32 (n : Int) &&& BitVec.ofInt 32 255).toNat : Nat)) % 256 = _
  rw [h1]
  simp [IntKind.wrap, IntKind.bits, IntKind.signed]
theorem hd_hi {n : Nat} (h : n ≤ 400) : IntKind.u8.wrap (IntKind.i64.wrap ((n : Int) / 256)) = IntKind.u8.wrap (ishr .i64 n 8) := by
  have : ishr .i64 n 8 = (n : Int) / 256 := by
    simp only [ishr, IntKind.bits]
    simp
    exact (Int.fdiv_eq_ediv_of_nonneg _ (by omega)).trans rfl
  rw [this, wrap_i64 (by omega) (by omega)]
theorem hd_lo {n : Nat} (h : n ≤ 400) : IntKind.u8.wrap ((n : Int).tmod 256) = IntKind.u8.wrap n := by
  rw [wrap_u8, wrap_u8, Int.tmod_eq_emod_of_nonneg (by omega)]
  omega
theorem wrap_u32 (x : Int) : IntKind.u32.wrap x = x % 4294967296 := by
  simp [IntKind.wrap, IntKind.bits, IntKind.signed]
theorem ixor_nat (x y : Int) : ∃ n : Nat, ixor .u32 x y = n ∧ n < 4294967296 := by
  refine ⟨(ixor .u32 x y).toNat, ?_, ?_⟩
  · unfold ixor; rw [wrap_u32]; omega
  · unfold ixor; rw [wrap_u32]; omega
theorem ishr_nat (n s : Nat) (hs : s ≤ 32) : ishr .u32 n s = (n / 2 ^ s : Nat) := by
  simp only [ishr, IntKind.bits]
  rw [Int.toNat_natCast, Nat.min_eq_left hs, Int.fdiv_eq_ediv_of_nonneg _ (by exact_mod_cast Nat.zero_le _)]
  simp
/-- Bytes. -/
def Byt (bs : List Int) : Prop := ∀ n ∈ bs, 0 ≤ n ∧ n < 256
theorem Byt.get {bs : List Int} (h : Byt bs) (i : Nat) : 0 ≤ bs.getD i 0 ∧ bs.getD i 0 < 256 := by
  by_cases hi : i < bs.length
  · simp only [List.getD_eq_getElem?_getD, List.getElem?_eq_getElem hi, Option.getD_some]
    exact h _ (List.getElem_mem hi)
  · simp [List.getElem?_eq_none (Nat.le_of_not_lt hi)]
theorem Byt.take {bs : List Int} (h : Byt bs) (n : Nat) : Byt (bs.take n) := fun x hx => h x (List.mem_of_mem_take hx)
theorem Byt.drop {bs : List Int} (h : Byt bs) (n : Nat) : Byt (bs.drop n) := fun x hx => h x (List.mem_of_mem_drop hx)
theorem Byt.app {a b : List Int} (h : Byt a) (g : Byt b) : Byt (a ++ b) := fun x hx => by
  rcases List.mem_append.1 hx with hx | hx
  · exact h x hx
  · exact g x hx
theorem byt_nil : Byt [] := fun x h => by cases h
theorem byt_cons {x : Int} {l : List Int} (h : 0 ≤ x ∧ x < 256) (g : Byt l) : Byt (x :: l) := fun y hy => by
  rcases List.mem_cons.1 hy with rfl | hy
  · exact h
  · exact g y hy
theorem wrap_u8_in (x : Int) : 0 ≤ IntKind.u8.wrap x ∧ IntKind.u8.wrap x < 256 := by rw [wrap_u8]; omega
theorem ior_hi {a b : Int} (ha : 0 ≤ a ∧ a < 256) (hb : 0 ≤ b ∧ b < 256) : ior .i64 (ishl .i64 a 8) b = 256 * a + b := by
  obtain ⟨m, rfl⟩ := Int.eq_ofNat_of_zero_le ha.1
  obtain ⟨n, rfl⟩ := Int.eq_ofNat_of_zero_le hb.1
  have hs : ishl .i64 (m : Int) 8 = ((m * 256 : Nat) : Int) := by
    simp only [ishl, IntKind.bits]
    rw [show min (8 : Int).toNat 64 = 8 from rfl, wrap_i64 (by omega) (by omega)]
    omega
  have e1 : (BitVec.ofInt 64 ((m * 256 : Nat) : Int)).toNat = m * 256 := by simp only [BitVec.toNat_ofInt]; omega
  have e2 : (BitVec.ofInt 64 (n : Int)).toNat = n := by simp only [BitVec.toNat_ofInt]; omega
  have e3 : (BitVec.ofInt 64 ((m * 256 : Nat) : Int) ||| BitVec.ofInt 64 (n : Int)).toNat = m * 256 + n := by
    rw [BitVec.toNat_or, e1, e2]
    have := Nat.shiftLeft_add_eq_or_of_lt (b := n) (i := 8) (by omega) m
    rw [Nat.shiftLeft_eq] at this
    exact this.symm
  rw [hs]
  unfold ior
  show IntKind.i64.wrap ((BitVec.ofInt 64 ((m * 256 : Nat) : Int) ||| BitVec.ofInt 64 (n : Int)).toNat : Nat) = _
  rw [e3, wrap_i64 (by omega) (by omega)]
  omega

theorem eq_getD {l m : List Int} (hl : l.length = m.length) (h : ∀ j, j < m.length → l.getD j 0 = m.getD j 0) : l = m := by
  apply List.ext_getElem hl
  intro i h1 h2
  have := h i h2
  simpa [List.getD_eq_getElem?_getD, h1, h2] using this
/-! strings of bytes -/
theorem strN_data (ns : List Int) : (strN ns).data.toList = ns.map fun n => UInt8.ofNat n.toNat := by simp [strN]
theorem strN_size (ns : List Int) : (strN ns).size = ns.length := by
  show (strN ns).data.size = _
  simp [strN]
theorem strN_nil : strN [] = ByteArray.empty := rfl
theorem strN_beq {a b : List Int} (ha : Byt a) (hb : Byt b) : ((strN a).toList == (strN b).toList) = decide (a = b) := by
  rw [ByteArray.toList_eq, ByteArray.toList_eq, strN_data, strN_data]
  by_cases h : a = b
  · subst h; simp
  · simp only [h, decide_false, beq_eq_false_iff_ne, ne_eq]
    intro e
    apply h
    have : ∀ {a b : List Int}, Byt a → Byt b → a.map (fun n => UInt8.ofNat n.toNat) = b.map (fun n => UInt8.ofNat n.toNat) → a = b := by
      intro a
      induction a with
      | nil => intro b _ _ e; cases b <;> simp_all
      | cons x a ih =>
        intro b ha hb e
        cases b with
        | nil => simp at e
        | cons y b =>
          simp only [List.map_cons, List.cons.injEq] at e
          have hx := ha x (by simp)
          have hy := hb y (by simp)
          have := congrArg UInt8.toNat e.1
          simp at this
          rw [ih (fun z hz => ha z (by simp [hz])) (fun z hz => hb z (by simp [hz])) e.2]
          rw [show x = y by omega]
    exact this ha hb e
theorem numsAV_u8s (bs : List Int) : numsAV (u8s bs) = some bs := by
  induction bs with
  | nil => rfl
  | cons x l ih =>
    show (numsAV (u8s l)).map (x :: ·) = _
    rw [ih]; rfl
end Go.Ab
end
section
/-! Rules: what stays of memory, slices that are read, slices of one's own, loops by what holds ahead of each round. -/
set_option linter.unusedVariables false
set_option linter.unusedSimpArgs false
namespace Go.Ab
theorem Hx.mapp {α β : Type} {o : Option α} {f : α → β} {P : α → Prop} {Q : β → Prop} (h : Hx o P) (hq : ∀ a, P a → Q (f a)) : Hx (o.map f) Q := by
  obtain ⟨r, rfl, h⟩ := h
  simpa using hq r h
theorem Hx.bindd {α β : Type} {o : Option α} {f : α → Option β} {P : α → Prop} {Q : β → Prop} (h : Hx o P) (hq : ∀ a, P a → Hx (f a) Q) : Hx (o.bind f) Q := by
  obtain ⟨r, rfl, h⟩ := h
  simpa using hq r h
theorem Hx.ex {α : Type} {o : Option α} {P : α → Prop} (h : Hx o P) : ∃ r, o = some r ∧ P r := Hx_iff.1 h
theorem Hx.som {α : Type} {a : α} {P : α → Prop} (h : P a) : Hx (some a) P := ⟨a, rfl, h⟩
theorem Hx.of {α : Type} {o : Option α} {r : α} {P : α → Prop} (e : o = some r) (h : P r) : Hx o P := ⟨r, e, h⟩

@[simp] theorem app_get0 {H X : AH} : (H ++ X)[H.length]? = X[0]? := by rw [List.getElem?_append_right (Nat.le_refl _), Nat.sub_self]
@[simp] theorem app_get {H X : AH} {i : Nat} : (H ++ X)[H.length + i]? = X[i]? := by rw [List.getElem?_append_right (Nat.le_add_right _ _), Nat.add_sub_cancel_left]
/-! ### what stays -/
/-- From H to H' only the blocks of F are turned. -/
def Chg (F : List Nat) (H H' : AH) : Prop := H.length ≤ H'.length ∧ ∀ i, i < H.length → i ∉ F → H'[i]? = H[i]?
theorem Chg.refl {F : List Nat} {H : AH} : Chg F H H := ⟨Nat.le_refl _, fun _ _ _ => rfl⟩
theorem Chg.trans {F G : List Nat} {H0 H1 H2 : AH} (a : Chg F H0 H1) (b : Chg G H1 H2) (h : ∀ i ∈ G, i ∈ F ∨ H0.length ≤ i) : Chg F H0 H2 :=
  ⟨Nat.le_trans a.1 b.1, fun i hi hn => by
    rw [b.2 i (Nat.lt_of_lt_of_le hi a.1) (fun hg => (h i hg).elim hn (by omega)), a.2 i hi hn]⟩
theorem Chg.tr {F : List Nat} {H0 H1 H2 : AH} (a : Chg F H0 H1) (b : Chg [] H1 H2) : Chg F H0 H2 := a.trans b (by simp)
theorem Chg.tr' {F : List Nat} {H0 H1 H2 : AH} (a : Chg F H0 H1) (b : Chg F H1 H2) : Chg F H0 H2 := a.trans b (fun i h => .inl h)
theorem Chg.mono {F G : List Nat} {H H' : AH} (a : Chg F H H') (h : ∀ i ∈ F, i ∈ G ∨ H.length ≤ i) : Chg G H H' := ⟨a.1, fun i hi hn => a.2 i hi (fun hf => (h i hf).elim hn (by omega))⟩
theorem Chg.nil {F : List Nat} {H H' : AH} (a : Chg [] H H') : Chg F H H' := a.mono (by simp)
theorem Chg.app {F : List Nat} (H X : AH) : Chg F H (H ++ X) := ⟨by simp, fun i hi _ => by rw [List.getElem?_append_left hi]⟩
theorem Chg.set (H : AH) (b : Nat) (A : AB) : Chg [b] H (H.set b A) := ⟨by simp, fun i hi hn => by rw [List.getElem?_set_ne (fun h => hn (by simp [h]))]⟩
theorem Chg.get {F : List Nat} {H H' : AH} (a : Chg F H H') {i : Nat} {A : AB} (e : H[i]? = some A) (hn : i ∉ F) : H'[i]? = some A := by
  rw [a.2 i (List.getElem?_eq_some_iff.1 e).1 hn]; exact e
theorem lt_of_get {H : AH} {i : Nat} {A : AB} (e : H[i]? = some A) : i < H.length := (List.getElem?_eq_some_iff.1 e).1
theorem rowOf_lt {H : AH} {b : Nat} {l : List AV} (h : rowOf H b = some l) : b < H.length := by
  unfold rowOf at h
  cases e : H[b]? with
  | none => rw [e] at h; cases h
  | some A => exact lt_of_get e
theorem rowOf_rw {H : AH} {b : Nat} {l : List AV} (h : H[b]? = some (.cells l .rw)) : rowOf H b = some l := by simp [rowOf, h]
theorem rowRw_rw {H : AH} {b : Nat} {l : List AV} (h : H[b]? = some (.cells l .rw)) : rowRw H 0 b = some l := by simp [rowRw, h]
theorem rowOf_self {H : AH} {b : Nat} {l : List AV} (h : b < H.length) : rowOf (H.set b (.cells l .rw)) b = some l := rowOf_rw (List.getElem?_set_self h)
theorem rowRw_self {H : AH} {b : Nat} {l : List AV} (h : b < H.length) : rowRw (H.set b (.cells l .rw)) 0 b = some l := rowRw_rw (List.getElem?_set_self h)
theorem Chg.row {F : List Nat} {H H' : AH} (a : Chg F H H') {b : Nat} {l : List AV} (h : rowOf H b = some l) (hn : b ∉ F) : rowOf H' b = some l := by
  have := a.2 b (rowOf_lt h) hn
  unfold rowOf at h ⊢
  rw [this]; exact h

/-! ### slices that are read -/
def blk : AV → List Nat
  | .slice (some (b, _)) _ _ _ => [b]
  | _ => []
@[simp] theorem blk_some {p : Nat × Nat} {n : Nat} {c : Option Nat} {s : Nat} : blk (.slice (some p) n c s) = [p.1] := rfl
@[simp] theorem blk_none {n : Nat} {c : Option Nat} {s : Nat} : blk (.slice none n c s) = [] := rfl
inductive SL (H : AH) (sz : Nat) : AV → List AV → Prop
  | nil (c : Option Nat) (s : Nat) : SL H sz (.slice none 0 c s) []
  | at_ (b o n : Nat) (c : Option Nat) (l cs : List AV) (hz : 0 < sz) (h1 : rowOf H b = some l) (h2 : o + n * sz ≤ l.length) (h3 : (l.drop o).take (n * sz) = cs) (h4 : ∀ k, c = some k → n ≤ k) : SL H sz (.slice (some (b, o)) n c sz) cs
/-- A slice of bytes. -/
abbrev B8 (H : AH) (v : AV) (bs : List Int) : Prop := SL H 1 v (u8s bs)
section
variable {H H' : AH} {sz : Nat} {v : AV} {cs : List AV} {F : List Nat}
theorem SL.chg (h : SL H sz v cs) (c : Chg F H H') (hF : ∀ i ∈ blk v, i ∉ F) : SL H' sz v cs := by
  cases h with
  | nil c s => exact .nil c s
  | at_ b o n k l cs hz h1 h2 h3 h4 => exact .at_ b o n k l cs hz (c.row h1 (hF b (by simp))) h2 h3 h4
theorem SL.keep (h : SL H sz v cs) (c : Chg [] H H') : SL H' sz v cs := h.chg c (by simp)
theorem SL.form (h : SL H sz v cs) : ∃ a n c s, v = .slice a n c s ∧ n * sz = cs.length := by
  cases h with
  | nil c s => exact ⟨none, 0, c, s, rfl, by simp⟩
  | at_ b o n c l cs hz h1 h2 h3 h4 => exact ⟨_, n, c, sz, rfl, by rw [← h3]; simp; omega⟩
theorem SL.sz_ok (h : SL H sz v cs) : szOk sz v = true := by cases h <;> simp
theorem SL.first (h : SL H sz v cs) {n : Nat} (hn : n * sz = cs.length) : firstC H sz n v = some cs := by
  cases h with
  | nil c s => rfl
  | at_ b o m c l cs hz h1 h2 h3 h4 =>
    have : n * sz = m * sz := by rw [hn, ← h3]; simp; omega
    have hnm := Nat.eq_of_mul_eq_mul_right hz this
    subst hnm
    simp [firstC, h1, h2, h3]
theorem SL.lt (h : SL H sz v cs) : ∀ i ∈ blk v, i < H.length := by
  cases h with
  | nil c s => simp
  | at_ b o n c l cs hz h1 h2 h3 h4 => simpa using rowOf_lt h1
theorem SL.bs {bs : List Int} (h : B8 H v bs) : BS H v bs := by
  change SL H 1 v (u8s bs) at h
  revert h
  generalize hg : u8s bs = cs
  intro h
  cases h with
  | nil c s =>
    obtain rfl : bs = [] := by simpa [u8s] using hg
    exact .nil c s
  | at_ b o n c l cs hz h1 h2 h3 h4 =>
    subst hg
    refine .at_ b o n c l bs h1 (by omega) (by simpa using h3) ?_
    have := congrArg List.length h3
    simp at this; omega
theorem SL.len8 {bs : List Int} (h : B8 H v bs) : ∃ a c s, v = .slice a bs.length c s := by
  obtain ⟨a, n, c, s, rfl, e⟩ := h.form
  exact ⟨a, c, s, by simp at e; rw [e]⟩
theorem SL.inj {ds : List AV} (h : SL H sz v cs) (k : SL H sz v ds) : cs = ds := by
  obtain ⟨a, n, c, s, rfl, e⟩ := h.form
  obtain ⟨a', n', c', s', e2, e'⟩ := k.form
  injection e2 with _ e2 _ _
  subst e2
  have := h.first e
  rw [k.first e'] at this
  exact (Option.some.inj this).symm
/-- The cells of element i. -/
theorem SL.get (h : SL H sz v cs) {i : Nat} (hi : (i + 1) * sz ≤ cs.length) (hz : 0 < sz) : ∃ b o n c l, v = .slice (some (b, o)) n c sz ∧ i < n ∧ rowOf H b = some l ∧ o + i * sz + sz ≤ l.length ∧ (l.drop (o + i * sz)).take sz = (cs.drop (i * sz)).take sz := by
  cases h with
  | nil c s =>
    have : 0 < (i + 1) * sz := Nat.mul_pos (by omega) hz
    simp at hi; omega
  | at_ b o n c l cs hz h1 h2 h3 h4 =>
    have hl : cs.length = n * sz := by rw [← h3]; simp; omega
    have hin : i < n := by
      rw [hl] at hi
      exact Nat.lt_of_succ_le (Nat.le_of_mul_le_mul_right hi hz)
    have hmul : (i + 1) * sz ≤ n * sz := Nat.mul_le_mul_right sz hin
    rw [Nat.add_mul, Nat.one_mul] at hmul
    refine ⟨b, o, n, c, l, rfl, hin, h1, by omega, ?_⟩
    rw [← h3, List.drop_take, List.take_take, List.drop_drop, Nat.min_eq_left (by omega)]
theorem SL.get8 {bs : List Int} (h : B8 H v bs) {i : Nat} (hi : i < bs.length) : ∃ b o c l, v = .slice (some (b, o)) bs.length c 1 ∧ rowOf H b = some l ∧ l[o + i]? = some (.int .u8 (bs.getD i 0)) := by
  obtain ⟨a, c, s, rfl⟩ := h.len8
  obtain ⟨b, o, l, rfl, rfl, h1, h2⟩ := h.bs.get i hi
  exact ⟨b, o, c, l, rfl, h1, h2⟩
theorem toStr_b8 {bs : List Int} (h : B8 H v bs) : toStr H v = some (.str (strN bs)) := by
  have hf := h.first (n := bs.length) (by simp)
  obtain ⟨a, c, s, rfl⟩ := h.len8
  have hs := h.sz_ok
  cases a with
  | none =>
    have : bs = [] := by
      have g := h.bs
      generalize hn : bs.length = n at g
      cases g
      rfl
    subst this
    rfl
  | some p =>
    simp at hs
    subst hs
    unfold toStr
    simp only [if_true, hf, Option.bind_some, numsAV_u8s, Option.map_some]
theorem SL.form1 {H : AH} {v : AV} {cs : List AV} (h : SL H 1 v cs) : ∃ a c s, v = .slice a cs.length c s := by
  obtain ⟨a, n, c, s, rfl, e⟩ := h.form
  exact ⟨a, c, s, by simp at e; rw [e]⟩
theorem SL.get1 {H : AH} {v : AV} {cs : List AV} (h : SL H 1 v cs) {i : Nat} (hi : i < cs.length) : ∃ b o c l, v = .slice (some (b, o)) cs.length c 1 ∧ rowOf H b = some l ∧ l[o + i]? = cs[i]? := by
  obtain ⟨b, o, n, c, l, rfl, h1, h2, h3, h4⟩ := h.get (i := i) (by omega) Nat.one_pos
  obtain ⟨a', c', s', e⟩ := h.form1
  injection e with _ e _ _
  refine ⟨b, o, c, l, by rw [e], h2, ?_⟩
  have := congrArg (fun l => l[0]?) h4
  simpa [List.getElem?_take, List.getElem?_drop] using this
/-- A row that is there. -/
theorem SL.mk {b n : Nat} {c : Option Nat} {l : List AV} (hz : 0 < sz) (h1 : rowOf H b = some l) (hn : n * sz = l.length) (h4 : ∀ k, c = some k → n ≤ k) : SL H sz (.slice (some (b, 0)) n c sz) l :=
  .at_ b 0 n c l l hz h1 (by omega) (by rw [List.drop_zero, hn, List.take_length]) h4
theorem SL.cap0 {x : Nat × Nat} {c : Option Nat} {l : List AV} (hz : 0 < sz) (h1 : rowOf H x.1 = some l) (h2 : x.2 ≤ l.length) : SL H sz (.slice (some x) 0 c sz) [] := by
  obtain ⟨b, o⟩ := x
  exact .at_ b o 0 c l [] hz h1 (by simp at h2 ⊢; omega) (by simp) (by omega)
def lowIs : Option AV → Nat → Prop
  | none, n => n = 0
  | some (.int _ i), n => i = n
  | _, _ => False
def highIs (len : Nat) : Option AV → Nat → Prop
  | none, n => n = len
  | some (.int _ i), n => i = n
  | _, _ => False
theorem abound_of {y n : Nat} {k : IntKind} {i : Int} (h : i = n) (hn : n ≤ y) : abound y (.int k i) = some n := by
  subst h; simp [abound, hn]
theorem SL.cut {low high : Option AV} (h : SL H sz v cs) (hz : 0 < sz) {lo hi : Nat} (hl : lo ≤ hi) (hh : hi * sz ≤ cs.length) (e1 : lowIs low lo) (e2 : ∀ n, n * sz = cs.length → highIs n high hi) :
    ∃ v', aslice H sz v low high none = some v' ∧ SL H sz v' ((cs.take (hi * sz)).drop (lo * sz)) ∧ (∀ i ∈ blk v', i ∈ blk v) ∧ (lo = 0 → ∀ a n c s, v = .slice (some a) n c s → v' = .slice (some a) hi c s) := by
  cases h with
  | nil c s =>
    have e2 := e2 0 (by simp)
    have h0 : hi = 0 := by
      rcases Nat.eq_zero_or_pos hi with h | h
      · exact h
      · have := Nat.mul_pos h (by omega : 0 < sz); simp at hh; omega
    subst h0
    obtain rfl : lo = 0 := by omega
    refine ⟨.slice none 0 (some 0) sz, ?_, by simpa using SL.nil _ _, by simp, fun _ _ _ _ _ h => by cases h⟩
    rcases low with _ | low
    · rcases high with _ | high
      · simp [aslice]
      · cases high <;> simp only [highIs] at e2 <;> try contradiction
        simp [aslice, e2, abound]
    · cases low <;> simp only [lowIs] at e1 <;> try contradiction
      rcases high with _ | high
      · simp [aslice, e1, abound]
      · cases high <;> simp only [highIs] at e2 <;> try contradiction
        simp [aslice, e1, e2, abound]
  | at_ b o n c l cs hz h1 h2 h3 h4 =>
    have hlen : cs.length = n * sz := by rw [← h3]; simp; omega
    have e2 := e2 n hlen.symm
    have hin : hi ≤ n := by
      rw [hlen] at hh
      exact Nat.le_of_mul_le_mul_right hh hz
    have hm1 : lo * sz ≤ hi * sz := Nat.mul_le_mul_right sz hl
    have hm2 : hi * sz ≤ n * sz := Nat.mul_le_mul_right sz hin
    have key : SL H sz (.slice (some (b, o + lo * sz)) (hi - lo) (c.map (· - lo)) sz) ((cs.take (hi * sz)).drop (lo * sz)) := by
      refine .at_ b _ _ _ l _ hz h1 (by rw [Nat.sub_mul]; omega) ?_ (fun k hk => ?_)
      · rw [← h3, List.take_take, Nat.min_eq_left hm2, List.drop_take, List.drop_drop, Nat.sub_mul]
      · cases c with
        | none => cases hk
        | some c' =>
          simp at hk
          have := h4 c' rfl
          omega
    refine ⟨_, ?_, key, by simp, ?_⟩
    · rcases high with _ | high
      · simp only [highIs] at e2
        subst e2
        rcases low with _ | low
        · simp only [lowIs] at e1
          subst e1
          simp [aslice]
        · cases low <;> simp only [lowIs] at e1 <;> try contradiction
          simp [aslice, abound_of e1 hl]
      · cases high <;> simp only [highIs] at e2 <;> try contradiction
        have hb : ∀ k', abound n (.int k' _) = some hi := fun k' => abound_of (k := k') e2 hin
        rcases low with _ | low
        · simp only [lowIs] at e1
          subst e1
          cases c with
          | none => simp [aslice, hb, Option.orElse]
          | some c =>
            have := abound_of (k := .i64) e2 (Nat.le_trans hin (h4 c rfl))
            simp [aslice, abound] at this ⊢
            simp [this]
        · cases low <;> simp only [lowIs] at e1 <;> try contradiction
          have hlow := abound_of (k := .i64) e1 hl
          cases c with
          | none =>
            simp [aslice, hb, Option.orElse]
            simp [abound] at hlow ⊢
            simp [hlow]
          | some c =>
            have := abound_of (k := .i64) e2 (Nat.le_trans hin (h4 c rfl))
            simp [aslice, abound] at this hlow ⊢
            simp [this, hlow]
    · rintro rfl a n' c' s' e
      injection e with e1 e2 e3 e4
      injection e1 with e1
      subst e1 e2 e3 e4
      cases c <;> simp
end

theorem u8s_td {bs : List Int} {lo hi : Nat} : ((u8s bs).take (hi * 1)).drop (lo * 1) = u8s ((bs.take hi).drop lo) := by rw [Nat.mul_one, Nat.mul_one, u8s_take, u8s_drop]
theorem SL.cut8 {H : AH} {v : AV} {bs : List Int} {low high : Option AV} (h : B8 H v bs) {lo hi : Nat} (hl : lo ≤ hi) (hh : hi ≤ bs.length) (e1 : lowIs low lo) (e2 : highIs bs.length high hi) :
    ∃ v', aslice H 1 v low high none = some v' ∧ B8 H v' ((bs.take hi).drop lo) ∧ (∀ i ∈ blk v', i ∈ blk v) ∧ (lo = 0 → ∀ a n c s, v = .slice (some a) n c s → v' = .slice (some a) hi c s) := by
  obtain ⟨v', h1, h2, h3, h4⟩ := SL.cut (low := low) (high := high) h Nat.one_pos hl (by simpa using hh) e1 (fun n hn => by simp at hn; rw [hn]; exact e2)
  rw [u8s_td] at h2
  exact ⟨v', h1, h2, h3, h4⟩
theorem aslice_chg {H H' : AH} {F : List Nat} {sz : Nat} {v v' : AV} {lo hi mx : Option AV} (c : Chg F H H') (hF : ∀ i ∈ blk v, i ∉ F) (e : aslice H sz v lo hi mx = some v') : aslice H' sz v lo hi mx = some v' := by
  cases v with
  | slice a len cap s =>
    cases a with
    | none => exact e
    | some p =>
      obtain ⟨b, o⟩ := p
      cases cap with
      | some k =>
        cases mx <;> cases hi <;> exact e
      | none =>
        cases mx with
        | some m => cases hi <;> exact e
        | none =>
          cases hi with
          | none => exact e
          | some hv =>
            have key : ∀ h, ((abound len hv).orElse fun _ => (rowOf H b).bind fun r => (abound r.length hv).bind fun h => if o + h * sz ≤ r.length then some h else none) = some h →
                ((abound len hv).orElse fun _ => (rowOf H' b).bind fun r => (abound r.length hv).bind fun h => if o + h * sz ≤ r.length then some h else none) = some h := by
              intro h
              cases abound len hv with
              | some x => exact id
              | none =>
                simp only [Option.orElse]
                intro g
                obtain ⟨r, g1, g2⟩ := Option.bind_eq_some_iff.1 g
                rw [c.row g1 (hF b (by simp)), Option.bind_some]
                exact g2
            unfold aslice at e ⊢
            simp only at e ⊢
            split
            · rename_i hs; rw [if_pos hs] at e; cases e
            · rename_i hs
              rw [if_neg hs] at e
              obtain ⟨h, g1, g2⟩ := Option.bind_eq_some_iff.1 e
              exact Option.bind_eq_some_iff.2 ⟨h, key h g1, g2⟩
  | _ => exact e

/-! ### slices of one's own: they lie at the beginning of a row that may be written -/
inductive Mine (H : AH) (sz : Nat) : AV → List AV → Prop
  | nil (c : Option Nat) (s : Nat) : Mine H sz (.slice none 0 c s) []
  | row (b n : Nat) (c : Option Nat) (l cs : List AV) (hz : 0 < sz) (h1 : H[b]? = some (.cells l .rw)) (h2 : n * sz ≤ l.length) (h3 : l.take (n * sz) = cs) (h4 : ∀ k, c = some k → l.length = k * sz) : Mine H sz (.slice (some (b, 0)) n c sz) cs
section
variable {H H' : AH} {sz : Nat} {v : AV} {cs : List AV} {F : List Nat}
theorem Mine.chg (h : Mine H sz v cs) (c : Chg F H H') (hF : ∀ i ∈ blk v, i ∉ F) : Mine H' sz v cs := by
  cases h with
  | nil c s => exact .nil c s
  | row b n k l cs hz h1 h2 h3 h4 => exact .row b n k l cs hz (c.get h1 (hF b (by simp))) h2 h3 h4
theorem Mine.keep (h : Mine H sz v cs) (c : Chg [] H H') : Mine H' sz v cs := h.chg c (by simp)
theorem Mine.sl (h : Mine H sz v cs) : SL H sz v cs := by
  cases h with
  | nil c s => exact .nil c s
  | row b n k l cs hz h1 h2 h3 h4 =>
    refine .at_ b 0 n k l cs hz (rowOf_rw h1) (by omega) (by simpa using h3) (fun q e => ?_)
    rw [h4 q e] at h2
    exact Nat.le_of_mul_le_mul_right h2 hz
theorem Mine.lt (h : Mine H sz v cs) : ∀ i ∈ blk v, i < H.length := h.sl.lt
/-- A row that was just made. -/
theorem Mine.new {X : AH} {l : List AV} {n : Nat} {c : Option Nat} (hz : 0 < sz) (hX : X = H ++ [.cells l .rw]) (hn : n * sz ≤ l.length) (h4 : ∀ k, c = some k → l.length = k * sz) : Mine X sz (.slice (some (H.length, 0)) n c sz) (l.take (n * sz)) :=
  .row _ n c l _ hz (by subst hX; simp) hn rfl h4
theorem Mine.appendC {by_ n : Nat} {xs : List AV} (h : Mine H sz v cs) (hn : n * sz = xs.length) (hz : 0 < sz) (hb : 0 < by_) (hr : (cs.length + xs.length) * by_ ≤ room) :
    Hx (aappendC 0 H sz by_ v n xs) fun r => Mine r.2 sz r.1 (cs ++ xs) ∧ Chg (blk v) H r.2 ∧ ∀ i ∈ blk r.1, i ∈ blk v ∨ H.length ≤ i := by
  have hrm : ∀ k m : Nat, k * sz = cs.length → m * sz = xs.length → (k + m) * by_ ≤ room := fun k m e1 e2 => by
    refine Nat.le_trans (Nat.mul_le_mul_right by_ ?_) hr
    rw [← e1, ← e2, ← Nat.add_mul]
    exact Nat.le_mul_of_pos_right _ hz
  unfold aappendC
  cases h with
  | nil c s =>
    by_cases h0 : n = 0
    · subst h0
      have : xs = [] := by simpa using hn.symm
      subst this
      simp
      exact ⟨.nil _ _, .refl⟩
    · have := hrm 0 n (by simp) hn
      simp at this
      simp [h0, this]
      refine ⟨?_, .app _ _⟩
      have hk := Mine.new (H := H) (X := H ++ [.cells xs .rw]) (l := xs) (n := n) (c := none) hz rfl (by omega) (by simp)
      rw [hn, List.take_length] at hk
      exact hk
  | row b m k l cs hz g1 g2 g3 g4 =>
    have hcs : cs.length = m * sz := by rw [← g3]; simp; omega
    by_cases h0 : n = 0
    · subst h0
      have : xs = [] := by simpa using hn.symm
      subst this
      simp
      exact ⟨.row b m k l cs hz g1 g2 g3 g4, .refl⟩
    · have hroom := hrm m n hcs.symm hn
      have hmul : (m + n) * sz = m * sz + n * sz := Nat.add_mul _ _ _
      have hin : ∀ k' : Nat, (m + n) * sz ≤ l.length → Mine (H.set b (.cells (splice l (m * sz) xs) .rw)) sz (.slice (some (b, 0)) (m + n) k sz) (cs ++ xs) := fun _ hle => by
        refine .row b (m + n) k _ _ hz (by rw [List.getElem?_set_self (lt_of_get g1)]) (by simp [splice]; omega) ?_ (fun q e => by rw [← g4 q e]; simp [splice]; omega)
        unfold splice
        rw [g3, List.take_append_of_le_length (by simp; omega), List.take_of_length_le (by simp; omega)]
      have hnew : ∀ H2 : AH, H2.length = H.length → Mine (H2 ++ [.cells (l.take (m * sz) ++ xs) .rw]) sz (.slice (some (H.length, 0)) (m + n) none sz) (cs ++ xs) := fun H2 h2 => by
        have := Mine.new (H := H2) (sz := sz) (l := l.take (m * sz) ++ xs) (n := m + n) (c := none) hz rfl (by simp; omega) (by simp)
        rw [h2] at this
        rw [← g3]
        rw [List.take_of_length_le (l := l.take (m * sz) ++ xs) (by simp; omega)] at this
        exact this
      simp only [h0, if_false, rowOf_rw g1, rowRw_rw g1, Option.bind_some, Nat.zero_add, g2, if_true]
      cases k with
      | some k =>
        have hk := g4 k rfl
        by_cases hle : m + n ≤ k
        · have hle' : (m + n) * sz ≤ l.length := by rw [hk]; exact Nat.mul_le_mul_right sz hle
          simp only [hle, hle', if_true, Hx_some]
          exact Hx.som ⟨hin 0 hle', .set _ _ _, by simp⟩
        · simp only [hle, if_false, hroom, if_true, Hx_some, List.drop_zero]
          exact Hx.som ⟨hnew H rfl, .app _ _, by simp⟩
      | none =>
        simp only [hroom, if_true]
        by_cases hle : (m + n) * sz ≤ l.length
        · simp only [hle, if_true, Hx_some]
          exact Hx.som ⟨hin 0 hle, .set _ _ _, by simp⟩
        · simp only [hle, if_false, Hx_some, List.drop_zero]
          exact Hx.som ⟨hnew _ (by simp), (Chg.set _ _ _).tr (.app _ _), by simp⟩
theorem Mine.append {by_ : Nat} {x : AV} {xs : List AV} (h : Mine H sz v cs) (hx : SL H sz x xs) (hz : 0 < sz) (hb : 0 < by_) (h1 : xs.all AV.one = true) (hr : (cs.length + xs.length) * by_ ≤ room) :
    Hx (aappend 0 H sz by_ v x) fun r => Mine r.2 sz r.1 (cs ++ xs) ∧ Chg (blk v) H r.2 ∧ ∀ i ∈ blk r.1, i ∈ blk v ∨ H.length ≤ i := by
  obtain ⟨a, n, c, s, rfl, hn⟩ := hx.form
  have hf := hx.first hn
  have hs := hx.sz_ok
  have hs' := h.sl.sz_ok
  rw [aappend_eq]
  have e : (szOk sz v && szOk sz (.slice a n c s) && (decide (0 < sz) && decide (0 < by_))) = true := by rw [hs', hs, decide_eq_true hz, decide_eq_true hb]; rfl
  rw [if_pos e]
  simp only [lenOf, Option.bind_some, hf, h1, Bool.true_eq_false, if_false, tag_eq]
  exact h.appendC hn hz hb hr
/-- append of noughts. -/
theorem Mine.appendZ {te : TI} {m : Nat} (h : Mine H te.sz v cs) (hz : 0 < te.sz) (hb : 0 < te.by_) (hl : te.zero.length = te.sz) (h1 : te.zero.all AV.one = true) (hm : m * te.by_ ≤ room) (hr : (cs.length + m * te.sz) * te.by_ ≤ room) :
    Hx (aappendZ 0 H te v (.int .i64 m)) fun r => Mine r.2 te.sz r.1 (cs ++ (List.replicate m te.zero).flatten) ∧ Chg (blk v) H r.2 ∧ ∀ i ∈ blk r.1, i ∈ blk v ∨ H.length ≤ i := by
  have hlen : (List.replicate m te.zero).flatten.length = m * te.sz := by simp [hl]
  unfold aappendZ
  simp only
  rw [if_pos (by simp only [h.sl.sz_ok, h1, decide_eq_true hz, decide_eq_true hb, Int.toNat_natCast, decide_eq_true hm, decide_eq_true (Int.natCast_nonneg m), Bool.and_self])]
  rw [Int.toNat_natCast]
  exact h.appendC hlen.symm hz hb (by rw [hlen]; exact hr)
end

theorem Mine.cut {H : AH} {sz : Nat} {v : AV} {cs : List AV} (h : Mine H sz v cs) (hz : 0 < sz) {m : Nat} (hm : m * sz ≤ cs.length) {high : Option AV} (e2 : ∀ n, n * sz = cs.length → highIs n high m) :
    ∃ v', aslice H sz v none high none = some v' ∧ Mine H sz v' (cs.take (m * sz)) ∧ ∀ i ∈ blk v', i ∈ blk v := by
  obtain ⟨v', a, s, k, e⟩ := h.sl.cut (low := none) (high := high) hz (lo := 0) (hi := m) (Nat.zero_le _) hm rfl e2
  refine ⟨v', a, ?_, k⟩
  rw [Nat.zero_mul, List.drop_zero] at s
  cases h with
  | nil c s0 =>
    have : v' = .slice none 0 (some 0) sz := by
      have e2 := e2 0 (by simp)
      rcases high with _ | high
      · simp [aslice] at a; exact a.symm
      · cases high <;> simp only [highIs] at e2 <;> try contradiction
        have hm0 : m = 0 := by
          rcases Nat.eq_zero_or_pos m with h | h
          · exact h
          · have := Nat.mul_pos h hz; simp at hm; omega
        subst hm0
        simp [aslice, e2, abound] at a
        exact a.symm
    subst this
    simpa using Mine.nil _ _
  | row b n c l cs hz h1 h2 h3 h4 =>
    have := e rfl (b, 0) n c sz rfl
    subst this
    have hcs : cs.length = n * sz := by rw [← h3]; simp; omega
    refine .row b m c l _ hz h1 (by omega) ?_ h4
    rw [← h3, List.take_take, Nat.min_eq_left (by omega)]
theorem Mine.cut8 {H : AH} {v : AV} {bs : List Int} (h : Mine H 1 v (u8s bs)) {m : Nat} (hm : m ≤ bs.length) {high : Option AV} (e2 : highIs bs.length high m) :
    ∃ v', aslice H 1 v none high none = some v' ∧ Mine H 1 v' (u8s (bs.take m)) ∧ ∀ i ∈ blk v', i ∈ blk v := by
  obtain ⟨v', h1, h2, h3⟩ := h.cut Nat.one_pos (m := m) (high := high) (by simpa using hm) (fun n hn => by simp at hn; rw [hn]; exact e2)
  rw [Nat.mul_one, u8s_take] at h2
  exact ⟨v', h1, h2, h3⟩
/-- An environment of which little is known. -/
def sp (n : Nat) (l : List (Nat × AV)) : List AV := l.foldl (fun e p => e.set p.1 p.2) (List.replicate n .undef)
attribute [simp] sp
/-! ### loops, by what holds ahead of each round -/
/-- Behind a round. -/
def upK (P : St → Prop) (Q : Ex × St → Prop) (r : Ex × St) : Prop := match r.1 with | .normal => P r.2 | _ => Q r
@[simp] theorem upK_normal {P : St → Prop} {Q : Ex × St → Prop} {s : St} : upK P Q (.normal, s) = P s := propext ⟨fun h => h, fun h => h⟩
@[simp] theorem upK_exit {P : St → Prop} {Q : Ex × St → Prop} {i : Nat} {s : St} : upK P Q (.exit i, s) = Q (.exit i, s) := propext ⟨fun h => h, fun h => h⟩
@[simp] theorem upK_ret {P : St → Prop} {Q : Ex × St → Prop} {s : St} : upK P Q (.ret, s) = Q (.ret, s) := propext ⟨fun h => h, fun h => h⟩
@[congr] theorem upK_congr {P : St → Prop} {Q : Ex × St → Prop} {r r' : Ex × St} (h : tag r = r') : upK P Q r = upK P Q r' := by cases h; rfl
theorem upK_or {P : St → Prop} {Q : Ex × St → Prop} {r : Ex × St} (h : upK P Q r) : (r.1 = .normal ∧ P r.2) ∨ (r.1 ≠ .normal ∧ Q r) := by
  obtain ⟨x, s⟩ := r
  cases x with
  | normal => exact .inl ⟨rfl, h⟩
  | exit i => exact .inr ⟨by simp, h⟩
  | ret => exact .inr ⟨by simp, h⟩
theorem evLoop_inv {g : St → Option (Ex × St)} {M : St → St} (I : Nat → St → Prop) {Q : Ex × St → Prop}
    (hs : ∀ j s, I j s → Hx (g s) fun r => (r.1 = .normal ∧ ∃ j', j' < j ∧ I j' (M r.2)) ∨ (r.1 ≠ .normal ∧ Q r)) :
    ∀ (k j : Nat) (s : St), j < k → I j (M s) → Hx (evLoop (fun s => g (M s)) k s) Q
  | 0, j, s, h, _ => by omega
  | k + 1, j, s, h, hI => by
    obtain ⟨r, e, h2⟩ := Hx_iff.1 (hs j _ hI)
    simp only [evLoop, e]
    obtain ⟨x, s'⟩ := r
    rcases h2 with ⟨h2, j', h3, h4⟩ | ⟨h2, h3⟩
    · simp only at h2
      subst h2
      simp only [Option.bind_some]
      exact evLoop_inv I hs k j' s' (by omega) h4
    · simp only at h2
      cases x with
      | normal => exact absurd rfl h2
      | exit i => simpa using h3
      | ret => simpa using h3
section
variable {ap : AP} {cf : CallF} {lo k : Nat} {rd : Option Nat} {keep : List Bool} {b : AC} {s : St}
/-- A loop: j tells how many rounds there may be yet. -/
theorem hx_down (I : Nat → St → Prop) {Q : Ex × St → Prop} {j : Nat}
    (hs : ∀ j s, I j s → Hx (evCode ap cf lo rd k b s) (upK (fun s' => ∃ j', j' < j ∧ I j' (maskS keep s')) Q)) (hk : j < k) (h0 : I j (maskS keep s)) :
    Hx (evCode ap cf lo rd k (.loop keep b) s) Q := by
  simp only [evCode]
  exact evLoop_inv (g := evCode ap cf lo rd k b) (M := maskS keep) I (fun j s hI => (hs j s hI).mono fun r h => upK_or h) k j s hk h0
/-- A loop that counts up to n. -/
theorem hx_up (I : Nat → St → Prop) (n : Nat) {Q : Ex × St → Prop}
    (hs : ∀ i s, i < n → I i s → Hx (evCode ap cf lo rd k b s) (upK (fun s' => I (i + 1) (maskS keep s')) Q))
    (he : ∀ s, I n s → Hx (evCode ap cf lo rd k b s) (upK (fun _ => False) Q)) (hk : n < k) (h0 : I 0 (maskS keep s)) :
    Hx (evCode ap cf lo rd k (.loop keep b) s) Q := by
  refine hx_down (fun j s => j ≤ n ∧ I (n - j) s) (j := n) (fun j s ⟨hj, hI⟩ => ?_) hk ⟨Nat.le_refl n, by simpa using h0⟩
  cases j with
  | zero =>
    refine (he s (by simpa using hI)).mono fun r h => ?_
    rcases upK_or h with ⟨_, h⟩ | ⟨h1, h2⟩
    · exact h.elim
    · obtain ⟨x, s'⟩ := r
      cases x with
      | normal => exact absurd rfl h1
      | exit i => exact h2
      | ret => exact h2
  | succ j =>
    refine (hs (n - (j + 1)) s (by omega) hI).mono fun r h => ?_
    obtain ⟨x, s'⟩ := r
    rcases upK_or h with ⟨h1, h2⟩ | ⟨h1, h2⟩
    · simp only at h1 h2
      subst h1
      refine ⟨j, by omega, by omega, ?_⟩
      rw [show n - (j + 1) + 1 = n - j by omega] at h2
      exact h2
    · cases x with
      | normal => exact absurd rfl h1
      | exit i => exact h2
      | ret => exact h2
end
end Go.Ab
end
section
/-! Regions whose order is drawn, carried out one behind the other on one environment. -/
set_option linter.unusedVariables false
set_option linter.unusedSimpArgs false
namespace Go.Ab
structure DP where
  i : Nat
  o : AO
  cl : Cl
  win : List Nat
structure SD where
  env : List AV
  cur : AH
  prev : List AH
  pend : List (List Nat × List AV × Op × AV)
def toAO (ops : List Oper) (o : Oper) : AO := { dst := o.dst, op := o.op, ty := o.type, guard := o.guard.map fun g => (ops.toArray[g.1]?).bind (·.dst), want := (o.guard.map (·.2)).getD true }
/-- Is there a later operation that makes a block, ahead of the next one that may turn memory? -/
def laterA (ap : AP) (ops : List Oper) (ord : List Nat) (i : Nat) : Bool := ord.any fun k => isCl ap ops .a k && decide (stOf ap ops ord k = stOf ap ops ord i) && decide (ord.idxOf i < ord.idxOf k)
def winC (ap : AP) (ops : List Oper) (ord : List Nat) (anc : List (List Nat)) (i : Nat) : List Nat :=
  if isCl ap ops .h i then (List.range (nE ap ops ord + 1)).filter fun j => inWin ap ops ord anc i j && (decide (j ≠ stOf ap ops ord i) || laterA ap ops ord i) else []
def compO (ap : AP) (ops : List Oper) (ord : List Nat) (anc : List (List Nat)) : List Nat → Option (List DP)
  | [] => some []
  | i :: r => (ops[i]?).bind fun o => (compO ap ops ord anc r).map fun l => ⟨i, toAO ops o, cls ap o.op, winC ap ops ord anc i⟩ :: l
def drawC (ap : AP) (ops : List Oper) (ord : List Nat) (anc : List (List Nat)) : Option (List DP) := if ordOk ap ops ord anc then compO ap ops ord anc ord else none

def seqStep (ap : AP) (cf : CallF) (lo base : Nat) (d : DP) (s : SD) : Option SD :=
  match wantedA s.env d.o.guard d.o.want with
  | none => none
  | some true => match d.cl with
    | .q => (aop ap lo s.env s.cur d.o.op).map fun r => ⟨setD s.env d.o.dst r.1, s.cur, s.prev, s.pend⟩
    | .h => (aop ap lo s.env s.cur d.o.op).map fun r => ⟨setD s.env d.o.dst r.1, s.cur, s.prev, if d.win.isEmpty then s.pend else (d.win, s.env, d.o.op, r.1) :: s.pend⟩
    | .a => (aop ap lo s.env (List.replicate (base + d.i) dead0) d.o.op).bind fun r => (r.2[base + d.i]?).bind fun A =>
        if (s.prev ++ [s.cur]).all fun H => isDeadB H[base + d.i]? then some ⟨setD s.env d.o.dst r.1, s.cur.set (base + d.i) A, s.prev, s.pend⟩ else none
    | .e => (aoper ap cf lo s.env s.cur d.o.op).map fun r => ⟨setD s.env d.o.dst r.1, r.2, s.prev ++ [s.cur], s.pend⟩
  | some false => match d.cl with
    | .e => some ⟨setD s.env d.o.dst (.tuple []), s.cur, s.prev ++ [s.cur], s.pend⟩
    | .a => if (s.prev ++ [s.cur]).all fun H => isDeadB H[base + d.i]? then some ⟨setD s.env d.o.dst (.tuple []), s.cur, s.prev, s.pend⟩ else none
    | _ => some ⟨setD s.env d.o.dst (.tuple []), s.cur, s.prev, s.pend⟩
def seqGo (ap : AP) (cf : CallF) (lo base : Nat) : List DP → SD → Option SD
  | [], s => some s
  | d :: r, s => (seqStep ap cf lo base d s).bind (seqGo ap cf lo base r)
def pendOk (ap : AP) (lo : Nat) (Fs : List AH) : List (List Nat × List AV × Op × AV) → Prop
  | [] => True
  | p :: r => (∀ j ∈ p.1, ∀ F, Fs[j]? = some F → Hx (aop ap lo p.2.1 F p.2.2.1) fun q => q.1 = p.2.2.2) ∧ pendOk ap lo Fs r
theorem pendOk_mem {ap : AP} {lo : Nat} {Fs : List AH} : ∀ {l : List (List Nat × List AV × Op × AV)}, pendOk ap lo Fs l → ∀ p ∈ l, ∀ j ∈ p.1, ∀ F, Fs[j]? = some F → Hx (aop ap lo p.2.1 F p.2.2.1) fun q => q.1 = p.2.2.2
  | [], _, p, h => by cases h
  | x :: r, ⟨h1, h2⟩, p, h => by
    rcases List.mem_cons.1 h with rfl | h
    · exact h1
    · exact pendOk_mem h2 p h

/-! what an operation looks at -/
def Agr (m m' : List AV) (xs : List Operand) : Prop := ∀ x ∈ xs, opd m x = opd m' x
theorem agr_of {m m' : List AV} {xs : List Operand} (h : ∀ t, Operand.tmp t ∈ xs → get m t = get m' t) : Agr m m' xs := by
  intro x hx
  cases x with
  | tmp t => exact h t hx
  | const v => rfl
  | global g => rfl
  | func f => rfl
theorem agr_map {m m' : List AV} {xs : List Operand} (h : Agr m m' xs) : xs.map (opd m) = xs.map (opd m') := List.map_congr_left h
theorem agr_parts {α : Type} {m m' : List AV} {ps : List (α × Operand)} (h : Agr m m' (ps.map (·.2))) : ps.map (fun p => (p.1, opd m p.2)) = ps.map (fun p => (p.1, opd m' p.2)) := by
  refine List.map_congr_left fun p hp => ?_
  rw [h p.2 (List.mem_map.2 ⟨p, hp, rfl⟩)]
theorem agr_opt {m m' : List AV} {o : Option Operand} (h : ∀ x, o = some x → opd m x = opd m' x) : optAll m o = optAll m' o := by
  cases o with
  | none => rfl
  | some x =>
    show some (opd m x) = some (opd m' x)
    rw [h x rfl]
theorem aop_looks {ap : AP} {lo : Nat} {m m' : List AV} {H : AH} {op : Op} (h : Agr m m' op.operands.toList) : aop ap lo m H op = aop ap lo m' H op := by
  have h1 : ∀ x, x ∈ op.operands.toList → opd m x = opd m' x := h
  cases op with
  | move x => simp only [aop, h1 x (by simp [Op.operands])]
  | assign x => simp only [aop, h1 x (by simp [Op.operands])]
  | pick c a b => simp only [aop, h1 c (by simp [Op.operands]), h1 a (by simp [Op.operands]), h1 b (by simp [Op.operands])]
  | alloc e => rfl
  | box t x => simp only [aop, h1 x (by simp [Op.operands])]
  | build t ps => simp only [aop, agr_parts (m := m) (m' := m') (ps := ps.toList) (fun x hx => h1 x (by simpa [Op.operands] using hx))]
  | buildSlice t n ps => simp only [aop, agr_parts (m := m) (m' := m') (ps := ps.toList) (fun x hx => h1 x (by simpa [Op.operands] using hx))]
  | load t a => simp only [aop, h1 a (by simp [Op.operands])]
  | store t a x => simp only [aop, h1 a (by simp [Op.operands]), h1 x (by simp [Op.operands])]
  | nilCheck x => simp only [aop, h1 x (by simp [Op.operands])]
  | binOp o t x y z => simp only [aop, h1 x (by simp [Op.operands]), h1 y (by simp [Op.operands])]
  | unOp o t x => simp only [aop, h1 x (by simp [Op.operands])]
  | convert s d x => simp only [aop, h1 x (by simp [Op.operands])]
  | makeInterface t x => simp only [aop, h1 x (by simp [Op.operands])]
  | makeFunc f first caps =>
    cases f with
    | func f =>
      simp only [aop]
      rw [agr_map (m := m) (m' := m') (xs := first.toList) (fun x hx => h1 x (by simp [Op.operands] at hx ⊢; exact .inl hx)), agr_map (m := m) (m' := m') (xs := caps.toList) (fun x hx => h1 x (by simp [Op.operands] at hx ⊢; exact .inr hx))]
    | _ => rfl
  | makeSlice t l c => simp only [aop, h1 l (by simp [Op.operands]), h1 c (by simp [Op.operands])]
  | slice t x l hi mx =>
    have a1 : optAll m l = optAll m' l := agr_opt fun y hy => h1 y (by subst hy; simp [Op.operands])
    have a2 : optAll m hi = optAll m' hi := agr_opt fun y hy => h1 y (by subst hy; simp [Op.operands])
    have a3 : optAll m mx = optAll m' mx := agr_opt fun y hy => h1 y (by subst hy; simp [Op.operands])
    simp only [aop, h1 x (by simp [Op.operands]), a1, a2, a3]
  | fieldAddr t x f => simp only [aop, h1 x (by simp [Op.operands])]
  | field t x f => simp only [aop, h1 x (by simp [Op.operands])]
  | indexAddr t x i => simp only [aop, h1 x (by simp [Op.operands]), h1 i (by simp [Op.operands])]
  | index t x i => simp only [aop, h1 x (by simp [Op.operands]), h1 i (by simp [Op.operands])]
  | extract x i => simp only [aop, h1 x (by simp [Op.operands])]
  | call c =>
    obtain ⟨ce, args, ts⟩ := c
    cases ce with
    | builtin b =>
      simp only [aop]
      rw [agr_map (m := m) (m' := m') (xs := args.toList) (fun x hx => h1 x (by simp [Op.operands, Call.operands] at hx ⊢; first | exact hx | exact .inl hx | exact .inr hx))]
    | _ => rfl
  | _ => rfl
theorem aoper_looks {ap : AP} {cf : CallF} {lo : Nat} {m m' : List AV} {H : AH} {op : Op} (h : Agr m m' op.operands.toList) : aoper ap cf lo m H op = aoper ap cf lo m' H op := by
  cases op with
  | call c =>
    obtain ⟨ce, args, ts⟩ := c
    cases ce with
    | value f =>
      simp only [aoper, callee]
      rw [h f (by simp [Op.operands, Call.operands]), agr_map (m := m) (m' := m') (xs := args.toList) (fun x hx => h x (by simp [Op.operands, Call.operands] at hx ⊢; first | exact hx | exact .inl hx | exact .inr hx))]
    | _ => exact aop_looks (ap := ap) (lo := lo) (H := H) h
  | _ => exact aop_looks (ap := ap) (lo := lo) (H := H) h

theorem get_mapIdx {env : List AV} {f : Nat → AV → AV} {t : Nat} : get (env.mapIdx f) t = match env[t]? with | some v => f t v | none => .undef := by
  unfold get
  rw [List.getElem?_mapIdx]
  cases env[t]? <;> rfl
section
variable {ap : AP} {cf : CallF} {lo : Nat} {ops : List Oper} {env : List AV} {base : Nat} {ord : List Nat} {anc : List (List Nat)} {vals : Nat → AV}
theorem sees (hO : OrdP ap ops ord anc) {D : Nat → Bool} (hD : Closed ops D) {i : Nat} {o : Oper} (ho : ops[i]? = some o) (hi : D i = false) (he : ∀ e ∈ edges o, D e = true) {t : Nat} (ht : t ∈ o.looksAt ops.toArray) :
    get (envM ops env vals o) t = get (envF ops env vals D) t := by
  unfold envM envF
  rw [get_mapIdx, get_mapIdx]
  cases env[t]? with
  | none => rfl
  | some v =>
    simp only
    rw [if_pos (by simpa using ht)]
    cases hw : writer ops t with
    | none => rfl
    | some j =>
      simp only
      rcases hO.look i o ho t ht j hw with rfl | hj | ⟨p, hp, hj⟩
      · have hn : ¬ j ∈ edges o := fun hh => by
          have := hO.edge j o ho j hh
          omega
        rw [if_neg (by simpa using hn), hi]
        simp
      · rw [if_pos (by simpa using hj), he j hj]
        simp
      · have hDj : D j = false := by
          cases hx : D j with
          | false => rfl
          | true => exact absurd (hD j p hp hx i hj) (by simp [hi])
        have hn : ¬ j ∈ edges o := fun hh => by rw [he j hh] at hDj; cases hDj
        rw [if_neg (by simpa using hn), hDj]
        simp
theorem sees_ops (hO : OrdP ap ops ord anc) {D : Nat → Bool} (hD : Closed ops D) {i : Nat} {o : Oper} (ho : ops[i]? = some o) (hi : D i = false) (he : ∀ e ∈ edges o, D e = true) : Agr (envM ops env vals o) (envF ops env vals D) o.op.operands.toList :=
  agr_of fun t ht => sees hO hD ho hi he (by
    unfold Oper.looksAt
    refine List.mem_append_left _ (List.mem_filterMap.2 ⟨.tmp t, ht, rfl⟩))
theorem sees_want (hO : OrdP ap ops ord anc) {D : Nat → Bool} (hD : Closed ops D) {i : Nat} {o : Oper} (ho : ops[i]? = some o) (hi : D i = false) (he : ∀ e ∈ edges o, D e = true) : wantedM ops (envM ops env vals o) o = wantedA (envF ops env vals D) (toAO ops o).guard (toAO ops o).want := by
  unfold wantedM
  show wantedA (envM ops env vals o) (toAO ops o).guard (toAO ops o).want = _
  cases hg : o.guard with
  | none => simp [toAO, hg, wantedA]
  | some g =>
    cases hgd : (ops.toArray[g.1]?).bind (·.dst) with
    | none => simp only [toAO, hg, Option.map_some, hgd, wantedA]
    | some d =>
      have := sees (env := env) (vals := vals) hO hD ho hi he (t := d) (by
        unfold Oper.looksAt
        rw [hg]
        simp only [hgd]
        simp)
      simp only [toAO, hg, Option.map_some, hgd, wantedA, this]
theorem puts (hO : OrdP ap ops ord anc) {D : Nat → Bool} {i : Nat} {o : Oper} (ho : ops[i]? = some o) (hi : D i = false) (v : AV) :
    envF ops env (setF vals i v) (with_ D i) = setD (envF ops env vals D) o.dst v := by
  apply List.ext_getElem?
  intro t
  have hne : ∀ j x, D j = true → setF vals i x j = vals j := fun j x hj => by
    unfold setF
    rw [if_neg (fun e => by subst e; rw [hi] at hj; cases hj)]
  have other : ∀ (x : AV) (j : Nat), j ≠ i → (if with_ D i j = true then setF vals i v j else x) = if D j = true then vals j else x := fun x j hj => by
    simp [with_, hj, setF]
  cases hd : o.dst with
  | none =>
    simp only [setD, envF, List.getElem?_mapIdx]
    cases env[t]? with
    | none => rfl
    | some x =>
      simp only [Option.map_some]
      cases hw : writer ops t with
      | none => rfl
      | some j =>
        simp only
        rw [other x j (fun e => ?_)]
        subst e
        unfold writer at hw
        have := List.findIdx?_eq_some_iff_getElem.1 hw
        obtain ⟨h1, h2, _⟩ := this
        have : ops[j] = o := by
          have := List.getElem?_eq_getElem h1
          rw [ho] at this
          exact (Option.some.inj this).symm
        rw [this, hd] at h2
        simp at h2
  | some d =>
    have hwd := hO.one i o d ho hd
    simp only [setD]
    by_cases htd : t = d
    · subst htd
      by_cases hlen : t < env.length
      · rw [List.getElem?_set_self (by simpa [envF] using hlen)]
        simp [envF, List.getElem?_mapIdx, hlen, hwd, with_, setF]
      · rw [List.getElem?_eq_none (by simpa [envF] using hlen), List.getElem?_eq_none (by simpa [envF] using hlen)]
    · rw [List.getElem?_set_ne (fun e => htd e.symm)]
      simp only [envF, List.getElem?_mapIdx]
      cases env[t]? with
      | none => rfl
      | some x =>
        simp only [Option.map_some]
        cases hw : writer ops t with
        | none => rfl
        | some j =>
          simp only
          rw [other x j (fun e => ?_)]
          subst e
          unfold writer at hw
          obtain ⟨h1, h2, _⟩ := List.findIdx?_eq_some_iff_getElem.1 hw
          have : ops[j] = o := by
            have := List.getElem?_eq_getElem h1
            rw [ho] at this
            exact (Option.some.inj this).symm
          rw [this, hd] at h2
          simp at h2
          exact htd h2.symm

theorem sameV_refl : ∀ (v : AV), sameV v v = true := by
  intro v
  refine AV.rec (motive_1 := fun v => sameV v v = true) (motive_2 := fun l => sameL l l = true) ?_ ?_ ?_ ?_ ?_ ?_ ?_ ?_ ?_ ?_ ?_ ?_ ?_ ?_ ?_ v
  all_goals first | (intros; simp_all [sameV, sameL]; done) | skip

/-- What is asked of an operation that reads memory. -/
def HF (ap : AP) (lo : Nat) (ops : List Oper) (env : List AV) (ord : List Nat) (anc : List (List Nat)) (vals : Nat → AV) (pend : List (List Nat × List AV × Op × AV)) (Fs : List AH) (i : Nat) : Prop :=
  ∀ o, ops[i]? = some o → cls ap o.op = .h → wantedM ops (envM ops env vals o) o = some true →
    (∃ F, Fs[stOf ap ops ord i]? = some F ∧ ∃ H, aop ap lo (envM ops env vals o) H o.op = some (vals i, H) ∧ (laterA ap ops ord i = false → H = F)) ∧
    (winC ap ops ord anc i = [] ∨ ∃ m, (winC ap ops ord anc i, m, o.op, vals i) ∈ pend ∧ ∀ H, aop ap lo m H o.op = aop ap lo (envM ops env vals o) H o.op)

theorem HF.step {vals : Nat → AV} {pend pend' : List (List Nat × List AV × Op × AV)} {Fs Fs' : List AH} {i i' : Nat} {v : AV} (h : HF ap lo ops env ord anc vals pend Fs i') (hne : i' ≠ i) (hed : ∀ o, ops[i']? = some o → i ∉ edges o)
    (hp : ∀ x ∈ pend, x ∈ pend') (hF : ∀ F, Fs[stOf ap ops ord i']? = some F → ∃ F', Fs'[stOf ap ops ord i']? = some F' ∧ (laterA ap ops ord i' = false → F' = F)) :
    HF ap lo ops env ord anc (setF vals i v) pend' Fs' i' := by
  intro o ho hc hw
  have hv : setF vals i v i' = vals i' := by unfold setF; rw [if_neg hne]
  have hm : envM ops env (setF vals i v) o = envM ops env vals o := envM_congr fun e he => by
    unfold setF
    exact if_neg (fun (x : e = i) => hed o ho (x ▸ he))
  rw [hm] at hw
  obtain ⟨⟨F, h1, H, h2, h3⟩, h4⟩ := h o ho hc hw
  obtain ⟨F', h5, h6⟩ := hF F h1
  rw [hv, hm]
  refine ⟨⟨F', h5, H, h2, fun hl => by rw [h6 hl]; exact h3 hl⟩, ?_⟩
  rcases h4 with h4 | ⟨m, h4, h7⟩
  · exact .inl h4
  · exact .inr ⟨m, hp _ h4, h7⟩

theorem seq_draw (hO : OrdP ap ops ord anc) : ∀ (r pre : List Nat) (s : DS) (q q' : SD) (l : List DP), pre ++ r = ord → s.prev.length = nE ap ops pre → compO ap ops ord anc r = some l →
    q.env = envF ops env s.vals (fun i => decide (i ∈ pre)) → q.cur = s.cur → q.prev = s.prev → (∀ i ∈ pre, HF ap lo ops env ord anc s.vals q.pend (s.prev ++ [s.cur]) i) → seqGo ap cf lo base l q = some q' →
    ∃ s', drawGo ap cf lo ops env base r s = some s' ∧ q'.env = envF ops env s'.vals (fun i => decide (i ∈ ord)) ∧ q'.cur = s'.cur ∧ q'.prev = s'.prev ∧ ∀ i ∈ ord, HF ap lo ops env ord anc s'.vals q'.pend (s'.prev ++ [s'.cur]) i
  | [], pre, s, q, q', l, hp, hl, hc, he, hcu, hpr, hh, h => by
    simp only [compO, Option.some.injEq] at hc
    subst hc
    simp only [seqGo, Option.some.injEq] at h
    subst h
    obtain rfl : pre = ord := by simpa using hp
    exact ⟨s, rfl, he, hcu, hpr, hh⟩
  | i :: r, pre, s, q, q', l, hp, hl, hc, he, hcu, hpr, hh, h => by
    simp only [compO] at hc
    obtain ⟨o, ho, hc⟩ := Option.bind_eq_some_iff.1 hc
    obtain ⟨l', hc', rfl⟩ := Option.map_eq_some_iff.1 hc
    simp only [seqGo] at h
    obtain ⟨q1, h1, h2⟩ := Option.bind_eq_some_iff.1 h
    have hnd : (pre ++ i :: r).Nodup := by rw [hp]; exact hO.nodup
    have hipre : i ∉ pre := fun hm => (List.nodup_append.1 hnd).2.2 i hm i (by simp) rfl
    have hst : stOf ap ops ord i = s.prev.length := by rw [← hp, stOf_append _ _ _ hipre, hl]; simp [stOf]
    have inpre : ∀ (j : Nat) (o' : Oper), ops[j]? = some o' → (j ∈ pre ∨ j = i) → ∀ e ∈ edges o', e ∈ pre := by
      intro j o' hj hji e hee
      obtain ⟨g1, g2⟩ := hO.edge j o' hj e hee
      by_cases hx : e ∈ pre
      · exact hx
      · exfalso
        have hje : ord.idxOf j ≤ pre.length := by
          rcases hji with hji | rfl
          · rw [← hp, List.idxOf_append, if_pos hji]
            exact List.idxOf_le_length
          · rw [← hp, List.idxOf_append, if_neg hipre]
            simp
        have : pre.length ≤ ord.idxOf e := by
          rw [← hp, List.idxOf_append, if_neg hx]
          omega
        omega
    have hcl : Closed ops fun i => decide (i ∈ pre) := fun j o' hj hd e hee => by
      simp only [decide_eq_true_eq] at hd ⊢
      exact inpre j o' hj (.inl hd) e hee
    have hD : (fun i => decide (i ∈ pre)) i = false := by simpa using hipre
    have hE : ∀ e ∈ edges o, (fun i => decide (i ∈ pre)) e = true := fun e hee => by simpa using inpre i o ho (.inr rfl) e hee
    have hw := sees_want (env := env) (vals := s.vals) hO hcl ho hD hE
    have hag := sees_ops (env := env) (vals := s.vals) hO hcl ho hD hE
    rw [← he] at hw hag
    have hpre1 : (pre ++ [i]) ++ r = ord := by simpa using hp
    have hfun : with_ (fun k => decide (k ∈ pre)) i = fun k => decide (k ∈ pre ++ [i]) := by
      funext k
      unfold with_
      by_cases hk : k = i <;> simp [hk]
    have henv : ∀ v, setD q.env o.dst v = envF ops env (setF s.vals i v) (fun k => decide (k ∈ pre ++ [i])) := fun v => by
      rw [← hfun, puts hO ho hD, he]
    have hedn : ∀ j ∈ pre, ∀ o' : Oper, ops[j]? = some o' → i ∉ edges o' := fun j hj o' ho' hm => hipre (inpre j o' ho' (.inl hj) i hm)
    have hnepre : ∀ j ∈ pre, j ≠ i := fun j hj e => hipre (e ▸ hj)
    have hmi : ∀ v, envM ops env (setF s.vals i v) o = envM ops env s.vals o := fun v => envM_congr fun e hee => by
      unfold setF
      exact if_neg (fun (x : e = i) => hipre (x ▸ inpre i o ho (.inr rfl) e hee))
    have hne : nE ap ops (pre ++ [i]) = s.prev.length + (if isCl ap ops .e i then 1 else 0) := by rw [nE_append, hl]; simp [nE]
    have clof : ∀ c, isCl ap ops c i = true ↔ cls ap o.op = c := fun c => isCl_iff ho
    have same : ∀ k, k < (s.prev ++ [s.cur]).length → ∀ F : AH, (s.prev ++ [s.cur])[k]? = some F → (s.prev ++ [s.cur] ++ [F])[k]? = (s.prev ++ [s.cur])[k]? := fun k hk F hF => List.getElem?_append_left hk
    have hstj : ∀ j ∈ pre, stOf ap ops ord j ≤ s.prev.length := fun j hj => by
      have hle : ∀ (l m : List Nat), j ∈ l → stOf ap ops (l ++ m) j ≤ nE ap ops l := by
        intro l m
        induction l with
        | nil => intro h; cases h
        | cons x r ih =>
          intro h
          simp only [List.cons_append, stOf, nE]
          split
          · omega
          · rename_i hx
            have := ih ((List.mem_cons.1 h).resolve_left (fun e => hx e.symm))
            omega
      rw [← hp, hl]
      exact hle pre _ hj
    -- calm: memory stays
    have calm : ∀ (v : AV) (pend : List (List Nat × List AV × Op × AV)), q1 = ⟨setD q.env o.dst v, s.cur, s.prev, pend⟩ → isCl ap ops .e i = false → (∀ x ∈ q.pend, x ∈ pend) → HF ap lo ops env ord anc (setF s.vals i v) pend (s.prev ++ [s.cur]) i →
        ∃ s', drawGo ap cf lo ops env base r ⟨setF s.vals i v, s.cur, s.prev⟩ = some s' ∧ q'.env = envF ops env s'.vals (fun i => decide (i ∈ ord)) ∧ q'.cur = s'.cur ∧ q'.prev = s'.prev ∧ ∀ i ∈ ord, HF ap lo ops env ord anc s'.vals q'.pend (s'.prev ++ [s'.cur]) i := by
      intro v pend hq1 hce hpd hi
      refine seq_draw hO r (pre ++ [i]) ⟨setF s.vals i v, s.cur, s.prev⟩ q1 q' l' hpre1 (by rw [hne, hce]; simp) hc' (by rw [hq1]; exact henv v) (by rw [hq1]) (by rw [hq1]) ?_ h2
      intro j hj
      rw [hq1]
      rcases List.mem_append.1 hj with hj | hj
      · exact (hh j hj).step (hnepre j hj) (hedn j hj) hpd fun F hF => ⟨F, hF, fun _ => rfl⟩
      · obtain rfl : j = i := by simpa using hj
        exact hi
    have made : ∀ (v : AV) (B : AH), q1 = ⟨setD q.env o.dst v, B, s.prev, q.pend⟩ → isCl ap ops .a i = true →
        ∃ s', drawGo ap cf lo ops env base r ⟨setF s.vals i v, B, s.prev⟩ = some s' ∧ q'.env = envF ops env s'.vals (fun i => decide (i ∈ ord)) ∧ q'.cur = s'.cur ∧ q'.prev = s'.prev ∧ ∀ i ∈ ord, HF ap lo ops env ord anc s'.vals q'.pend (s'.prev ++ [s'.cur]) i := by
      intro v B hq1 hca
      have hce : isCl ap ops .e i = false := by
        cases hx : isCl ap ops .e i with
        | false => rfl
        | true => exact absurd (((clof _).1 hca).symm.trans ((clof _).1 hx)) (by simp)
      refine seq_draw hO r (pre ++ [i]) ⟨setF s.vals i v, B, s.prev⟩ q1 q' l' hpre1 (by rw [hne, hce]; simp) hc' (by rw [hq1]; exact henv v) (by rw [hq1]) (by rw [hq1]) ?_ h2
      intro j hj
      rw [hq1]
      rcases List.mem_append.1 hj with hj | hj
      · refine (hh j hj).step (hnepre j hj) (hedn j hj) (fun _ h => h) fun F hF => ?_
        by_cases hk : stOf ap ops ord j = s.prev.length
        · refine ⟨B, by rw [hk]; simp, fun hl => ?_⟩
          exfalso
          have hji : ord.idxOf j < ord.idxOf i := by
            rw [← hp, List.idxOf_append, List.idxOf_append, if_pos hj, if_neg hipre]
            have := List.idxOf_lt_length_iff.2 hj
            omega
          have : laterA ap ops ord j = true := by
            unfold laterA
            refine List.any_eq_true.2 ⟨i, by rw [← hp]; simp, ?_⟩
            simp [hca, hst, hk, hji]
          rw [this] at hl; cases hl
        · have := hstj j hj
          have hlt : stOf ap ops ord j < s.prev.length := by omega
          refine ⟨F, ?_, fun _ => rfl⟩
          show (s.prev ++ [B])[stOf ap ops ord j]? = some F
          rw [List.getElem?_append_left hlt] at hF ⊢
          exact hF
      · obtain rfl : j = i := by simpa using hj
        intro o' ho' hc
        rw [ho] at ho'; cases ho'
        exact absurd (((clof _).1 hca).symm.trans hc) (by simp)
    have turn : ∀ (v : AV) (B : AH), q1 = ⟨setD q.env o.dst v, B, s.prev ++ [s.cur], q.pend⟩ → isCl ap ops .e i = true →
        ∃ s', drawGo ap cf lo ops env base r ⟨setF s.vals i v, B, s.prev ++ [s.cur]⟩ = some s' ∧ q'.env = envF ops env s'.vals (fun i => decide (i ∈ ord)) ∧ q'.cur = s'.cur ∧ q'.prev = s'.prev ∧ ∀ i ∈ ord, HF ap lo ops env ord anc s'.vals q'.pend (s'.prev ++ [s'.cur]) i := by
      intro v B hq1 hce
      refine seq_draw hO r (pre ++ [i]) ⟨setF s.vals i v, B, s.prev ++ [s.cur]⟩ q1 q' l' hpre1 (by rw [hne, hce]; simp) hc' (by rw [hq1]; exact henv v) (by rw [hq1]) (by rw [hq1]) ?_ h2
      intro j hj
      rw [hq1]
      rcases List.mem_append.1 hj with hj | hj
      · refine (hh j hj).step (hnepre j hj) (hedn j hj) (fun _ h => h) fun F hF => ⟨F, ?_, fun _ => rfl⟩
        show (s.prev ++ [s.cur] ++ [B])[stOf ap ops ord j]? = some F
        rw [List.getElem?_append_left (Nat.lt_of_le_of_lt (hstj j hj) (by simp))]
        exact hF
      · obtain rfl : j = i := by simpa using hj
        intro o' ho' hc
        rw [ho] at ho'; cases ho'
        exact absurd (((clof _).1 hce).symm.trans hc) (by simp)
    have fin : ∀ {s1 : DS}, drawStep ap cf lo ops env base i s = some s1 → (∃ s', drawGo ap cf lo ops env base r s1 = some s' ∧ q'.env = envF ops env s'.vals (fun i => decide (i ∈ ord)) ∧ q'.cur = s'.cur ∧ q'.prev = s'.prev ∧ ∀ i ∈ ord, HF ap lo ops env ord anc s'.vals q'.pend (s'.prev ++ [s'.cur]) i) →
        ∃ s', drawGo ap cf lo ops env base (i :: r) s = some s' ∧ q'.env = envF ops env s'.vals (fun i => decide (i ∈ ord)) ∧ q'.cur = s'.cur ∧ q'.prev = s'.prev ∧ ∀ i ∈ ord, HF ap lo ops env ord anc s'.vals q'.pend (s'.prev ++ [s'.cur]) i := by
      rintro s1 g1 ⟨s', g2, g3⟩
      exact ⟨s', by simp only [drawGo, g1, Option.bind_some]; exact g2, g3⟩
    have vac : ∀ v pend Fs, cls ap o.op ≠ .h → HF ap lo ops env ord anc v pend Fs i := fun v pend Fs hn o' ho' hc => by
      rw [ho] at ho'; cases ho'; exact absurd hc hn
    have vac2 : ∀ v pend Fs, wantedM ops (envM ops env s.vals o) o = some false → HF ap lo ops env ord anc (setF s.vals i v) pend Fs i := fun v pend Fs hn o' ho' hc hw' => by
      rw [ho] at ho'; cases ho'
      rw [hmi, hn] at hw'; cases hw'
    unfold seqStep at h1
    simp only at h1
    rw [← hw, hcu, hpr] at h1
    cases ht : wantedM ops (envM ops env s.vals o) o with
    | none => rw [ht] at h1; cases h1
    | some t =>
      rw [ht] at h1
      have hds : drawStep ap cf lo ops env base i s = drawStep ap cf lo ops env base i s := rfl
      conv at hds =>
        rhs
        unfold drawStep
        rw [ho, Option.bind_some, ht, Option.bind_some]
      cases t with
      | false =>
        simp only [Bool.false_eq_true, if_false] at hds
        simp only at h1
        cases hcl' : cls ap o.op with
        | e =>
          rw [hcl'] at h1
          simp only [Option.some.injEq] at h1
          have hce := (clof .e).2 hcl'
          rw [if_pos hce] at hds
          exact fin hds (turn (.tuple []) s.cur h1.symm hce)
        | a =>
          rw [hcl'] at h1
          simp only at h1
          have hca := (clof .a).2 hcl'
          have hce : isCl ap ops .e i = false := by
            cases hx : isCl ap ops .e i with
            | false => rfl
            | true => exact absurd (hcl'.symm.trans ((clof _).1 hx)) (by simp)
          rw [if_neg (by simp [hce]), if_pos hca] at hds
          split at h1
          · rename_i hd
            rw [if_pos hd] at hds
            simp only [Option.some.injEq] at h1
            exact fin hds (calm (.tuple []) q.pend h1.symm hce (fun _ h => h) (vac2 _ _ _ ht))
          · cases h1
        | q =>
          rw [hcl'] at h1
          simp only [Option.some.injEq] at h1
          have hce : isCl ap ops .e i = false := by
            cases hx : isCl ap ops .e i with
            | false => rfl
            | true => exact absurd (hcl'.symm.trans ((clof _).1 hx)) (by simp)
          have hca : isCl ap ops .a i = false := by
            cases hx : isCl ap ops .a i with
            | false => rfl
            | true => exact absurd (hcl'.symm.trans ((clof _).1 hx)) (by simp)
          rw [if_neg (by simp [hce]), if_neg (by simp [hca])] at hds
          exact fin hds (calm (.tuple []) q.pend h1.symm hce (fun _ h => h) (vac2 _ _ _ ht))
        | h =>
          rw [hcl'] at h1
          simp only [Option.some.injEq] at h1
          have hce : isCl ap ops .e i = false := by
            cases hx : isCl ap ops .e i with
            | false => rfl
            | true => exact absurd (hcl'.symm.trans ((clof _).1 hx)) (by simp)
          have hca : isCl ap ops .a i = false := by
            cases hx : isCl ap ops .a i with
            | false => rfl
            | true => exact absurd (hcl'.symm.trans ((clof _).1 hx)) (by simp)
          rw [if_neg (by simp [hce]), if_neg (by simp [hca])] at hds
          exact fin hds (calm (.tuple []) q.pend h1.symm hce (fun _ h => h) (vac2 _ _ _ ht))
      | true =>
        simp only [if_true] at hds
        simp only at h1
        cases hcl' : cls ap o.op with
        | e =>
          rw [hcl'] at h1 hds
          simp only at h1 hds
          obtain ⟨x, g1, rfl⟩ := Option.map_eq_some_iff.1 h1
          have g1' : aoper ap cf lo (envM ops env s.vals o) s.cur o.op = some x := (aoper_looks hag).trans g1
          rw [g1'] at hds
          exact fin hds (turn x.1 x.2 rfl ((clof .e).2 hcl'))
        | a =>
          rw [hcl'] at h1 hds
          simp only at h1 hds
          obtain ⟨x, g1, h1⟩ := Option.bind_eq_some_iff.1 h1
          obtain ⟨A, g2, h1⟩ := Option.bind_eq_some_iff.1 h1
          split at h1
          · rename_i hd
            simp only [Option.some.injEq] at h1
            have g1' : aop ap lo (envM ops env s.vals o) (List.replicate (base + i) dead0) o.op = some x := (aop_looks hag).trans g1
            rw [g1', Option.bind_some, g2, Option.bind_some, if_pos hd] at hds
            exact fin hds (made x.1 _ h1.symm ((clof .a).2 hcl'))
          · cases h1
        | q =>
          rw [hcl'] at h1 hds
          simp only at h1 hds
          obtain ⟨x, g1, rfl⟩ := Option.map_eq_some_iff.1 h1
          have g1' : aop ap lo (envM ops env s.vals o) s.cur o.op = some x := (aop_looks hag).trans g1
          rw [g1'] at hds
          have hce : isCl ap ops .e i = false := by
            cases hx : isCl ap ops .e i with
            | false => rfl
            | true => exact absurd (hcl'.symm.trans ((clof _).1 hx)) (by simp)
          exact fin hds (calm x.1 q.pend rfl hce (fun _ h => h) (vac _ _ _ (by rw [hcl']; simp)))
        | h =>
          rw [hcl'] at h1 hds
          simp only at h1 hds
          obtain ⟨x, g1, rfl⟩ := Option.map_eq_some_iff.1 h1
          have g1' : aop ap lo (envM ops env s.vals o) s.cur o.op = some x := (aop_looks hag).trans g1
          rw [g1'] at hds
          have hce : isCl ap ops .e i = false := by
            cases hx : isCl ap ops .e i with
            | false => rfl
            | true => exact absurd (hcl'.symm.trans ((clof _).1 hx)) (by simp)
          refine fin hds (calm x.1 _ rfl hce (fun y hy => by split <;> simp [hy]) ?_)
          intro o' ho' hc hw'
          rw [ho] at ho'; cases ho'
          rw [hmi]
          have hv : setF s.vals i x.1 i = x.1 := by simp [setF]
          rw [hv, hst]
          have hx := aop_same (.inr hcl') g1'
          refine ⟨⟨s.cur, by simp, s.cur, g1'.trans (by rw [← hx]), fun _ => rfl⟩, ?_⟩
          by_cases hwn : winC ap ops ord anc i = []
          · exact .inl hwn
          · refine .inr ⟨q.env, ?_, fun H => ?_⟩
            · rw [if_neg (by simpa using hwn)]
              simp [toAO]
            · exact (aop_looks hag).symm
theorem compO_len : ∀ (r : List Nat) (l : List DP), compO ap ops ord anc r = some l → l.length = r.length
  | [], l, h => by simp only [compO, Option.some.injEq] at h; subst h; rfl
  | i :: r, l, h => by
    simp only [compO] at h
    obtain ⟨o, _, h⟩ := Option.bind_eq_some_iff.1 h
    obtain ⟨l', h2, rfl⟩ := Option.map_eq_some_iff.1 h
    simp [compO_len r l' h2]
/-- Behind a drawn region. -/
def finK (ap : AP) (lo : Nat) (Q : List AV × AH → Prop) (q : SD) : Prop := pendOk ap lo (q.prev ++ [q.cur]) q.pend ∧ Q (q.env, q.cur)
@[simp] theorem finK_mk {Q : List AV × AH → Prop} {e : List AV} {c : AH} {p : List AH} {w : List (List Nat × List AV × Op × AV)} : finK ap lo Q ⟨e, c, p, w⟩ = (pendOk ap lo (p ++ [c]) w ∧ Q (e, c)) := propext ⟨fun h => h, fun h => h⟩
@[congr] theorem finK_congr {Q : List AV × AH → Prop} {q q' : SD} (h : tag q = q') : finK ap lo Q q = finK ap lo Q q' := by cases h; rfl
theorem hx_drawn {ops : Array Oper} {ds : List DP} (hc : drawC ap ops.toList ord anc = some ds) {H : AH} {Q : List AV × AH → Prop}
    (h : ∀ H1, Chg [] H H1 → H1.length = H.length + ds.length → (∀ i, i < ds.length → H1[H.length + i]? = some dead0) → Hx (seqGo ap cf lo H.length ds ⟨env, H1, [], []⟩) (finK ap lo Q)) :
    Hx (evDraw ap cf lo ops ord anc env H) Q := by
  unfold drawC at hc
  split at hc
  · rename_i hok
    have hO := ordP_of hok
    have hlen : ds.length = ops.size := by
      rw [compO_len _ _ hc]
      unfold ordOk at hok
      simp only [Bool.and_eq_true, decide_eq_true_eq] at hok
      simpa using hok.1.1.1.2
    rw [hlen] at h
    obtain ⟨q', h1, h2, h3⟩ := (h (H ++ List.replicate ops.size dead0) (.app _ _) (by simp) (fun i hi => by rw [List.getElem?_append_right (by omega)]; simp [hi])).ex
    obtain ⟨s', g1, g2, g3, g4, g5⟩ := seq_draw (cf := cf) (lo := lo) (env := env) (base := H.length) hO ord [] ⟨fun _ => .undef, H ++ List.replicate ops.size dead0, []⟩ ⟨env, H ++ List.replicate ops.size dead0, [], []⟩ q' ds (by simp) (by simp [nE]) hc (by
      apply List.ext_getElem?
      intro t
      simp only [envF, List.getElem?_mapIdx]
      cases env[t]? with
      | none => rfl
      | some x => simp; cases writer ops.toList t <;> rfl) rfl rfl (by simp) h1
    unfold evDraw
    rw [if_pos hok, g1, Option.bind_some]
    have hall : envF ops.toList env s'.vals (fun i => decide (i ∈ ord)) = envF ops.toList env s'.vals (fun _ => true) := by
      apply List.ext_getElem?
      intro t
      simp only [envF, List.getElem?_mapIdx]
      cases env[t]? with
      | none => rfl
      | some x =>
        simp only [Option.map_some]
        cases hw : writer ops.toList t with
        | none => rfl
        | some j =>
          unfold writer at hw
          obtain ⟨h1, _, _⟩ := List.findIdx?_eq_some_iff_getElem.1 hw
          simp [hO.all j h1]
    have hwin : winOk ap lo ops.toList env ord anc s'.vals (s'.prev ++ [s'.cur]) = true := by
      unfold winOk
      refine List.all_eq_true.2 fun i hi => ?_
      have hlt := hO.lt i hi
      have ho : ops.toList[i]? = some ops.toList[i] := List.getElem?_eq_getElem hlt
      rw [ho]
      simp only
      split
      · rename_i hcond
        simp only [Bool.and_eq_true, beq_iff_eq] at hcond
        obtain ⟨⟨F, k1, H2, k2, k3⟩, k4⟩ := g5 i hi _ ho ((isCl_iff ho).1 hcond.1) hcond.2
        refine List.all_eq_true.2 fun x hx => ?_
        obtain ⟨F', j⟩ := x
        have hFj : (s'.prev ++ [s'.cur])[j]? = some F' := by
          have := List.mem_zipIdx_iff_getElem?.1 hx
          simpa using this
        cases hiw : inWin ap ops.toList ord anc i j with
        | false => simp
        | true =>
          simp only [Bool.not_true, Bool.false_or]
          by_cases hown : j = stOf ap ops.toList ord i ∧ laterA ap ops.toList ord i = false
          · obtain ⟨rfl, hl⟩ := hown
            rw [k1] at hFj
            cases hFj
            rw [← k3 hl, k2]
            exact sameV_refl _
          · have hmem : j ∈ winC ap ops.toList ord anc i := by
              unfold winC
              rw [if_pos hcond.1]
              refine List.mem_filter.2 ⟨List.mem_range.2 ?_, ?_⟩
              · have hjl := (List.getElem?_eq_some_iff.1 hFj).1
                have T := trace (cf := cf) (lo := lo) (env := env) (base := H.length) hO ord [] _ _ (by simp) (by simp [nE]) g1
                have := T.len
                simp at this hjl
                omega
              · rw [hiw]
                simp only [Bool.true_and, Bool.or_eq_true, decide_eq_true_eq]
                by_cases hj : j = stOf ap ops.toList ord i
                · refine .inr ?_
                  cases hla : laterA ap ops.toList ord i with
                  | true => rfl
                  | false => exact absurd ⟨hj, hla⟩ hown
                · exact .inl hj
            rcases k4 with k4 | ⟨m, k4, k5⟩
            · rw [k4] at hmem; cases hmem
            · have := pendOk_mem h2 _ k4 j hmem F' (by rw [g3, g4]; exact hFj)
              simp only at this
              rw [k5] at this
              obtain ⟨y, y1, y2⟩ := this.ex
              rw [y1]
              simp only
              rw [y2]
              exact sameV_refl _
      · rfl
    rw [if_pos hwin, Hx_some, ← hall, ← g2, ← g3]
    exact h3
  · cases hc
end

/-! by simp -/
def dK (ap : AP) (cf : CallF) (lo base : Nat) (r : List DP) (Q : SD → Prop) (s : SD) : Prop := Hx (seqGo ap cf lo base r s) Q
section
variable {ap : AP} {cf : CallF} {lo base : Nat} {Q : SD → Prop}
@[simp] theorem dK_mk {r : List DP} {e : List AV} {c : AH} {p : List AH} {w : List (List Nat × List AV × Op × AV)} : dK ap cf lo base r Q ⟨e, c, p, w⟩ = Hx (seqGo ap cf lo base r ⟨e, c, p, w⟩) Q := propext ⟨fun h => h, fun h => h⟩
@[congr] theorem dK_congr {r : List DP} {s s' : SD} (h : tag s = s') : dK ap cf lo base r Q s = dK ap cf lo base r Q s' := by cases h; rfl
@[simp ↓] theorem hx_dnil {s : SD} : Hx (seqGo ap cf lo base [] s) Q = Q s := by simp only [seqGo, Hx_some]
@[simp ↓] theorem hx_dcons {d : DP} {r : List DP} {s : SD} : Hx (seqGo ap cf lo base (d :: r) s) Q = Hx (seqStep ap cf lo base d s) (dK ap cf lo base r Q) := by
  simp only [seqGo, Hx_bind]
  rfl
end
attribute [simp] seqStep pendOk
@[simp] theorem rep_get {n : Nat} {A : AB} : (List.replicate n dead0 ++ [A])[n]? = some A := by
  rw [List.getElem?_append_right (by simp)]; simp
@[simp] theorem isDeadB_0 : isDeadB (some dead0) = true := rfl
end Go.Ab
end
section
/-! Loops over functions. -/
set_option linter.unusedVariables false
set_option linter.unusedSimpArgs false
namespace Go.Ab
def isLoop : Option AB → Prop
  | some (.loop ..) => True
  | _ => False
/-- Only the block of the loop is turned. -/
def LS (l : Nat) (H H' : AH) : Prop := Chg [l] H H' ∧ isLoop H[l]?
theorem LS.get {l : Nat} {H H' : AH} (c : LS l H H') {b : Nat} {cs : List AV} {m : Md} (h : H[b]? = some (.cells cs m)) : H'[b]? = some (.cells cs m) :=
  c.1.get h (by
    simp only [List.mem_singleton]
    intro e
    subst e
    have := c.2
    rw [h] at this
    exact this)
theorem LS.row {l : Nat} {H H' : AH} (c : LS l H H') {b : Nat} {cs : List AV} (h : rowOf H b = some cs) : rowOf H' b = some cs := by
  refine c.1.row h ?_
  simp only [List.mem_singleton]
  intro e
  subst e
  unfold rowOf at h
  have := c.2
  revert this h
  cases H[b]? with
  | none => intro h; cases h
  | some A => cases A <;> simp [isLoop]
theorem LS.sl {l : Nat} {H H' : AH} (c : LS l H H') {sz : Nat} {v : AV} {cs : List AV} (h : SL H sz v cs) : SL H' sz v cs := by
  cases h with
  | nil c s => exact .nil c s
  | at_ b o n k r cs hz h1 h2 h3 h4 => exact .at_ b o n k r cs hz (c.row h1) h2 h3 h4
theorem LS.mine {l : Nat} {H H' : AH} (c : LS l H H') {sz : Nat} {v : AV} {cs : List AV} (h : Mine H sz v cs) : Mine H' sz v cs := by
  cases h with
  | nil c s => exact .nil c s
  | row b n k r cs hz h1 h2 h3 h4 => exact .row b n k r cs hz (c.get h1) h2 h3 h4
theorem LS.chg {l : Nat} {H0 H H' : AH} {F : List Nat} (c : LS l H H') (h : Chg F H0 H) (hl : H0.length ≤ l) : Chg F H0 H' := h.trans c.1 (by simp [hl])

/-- What a function that is gone through does: it hands over n rows of arguments, one behind the other, till it is told to stop. -/
def Goes (ap : AP) (k n : Nat) (g : AV) (A : Nat → AH → List AV → Prop) (Inv : AH → Prop) (H0 : AH) (l : Nat) : Prop :=
  ∀ (J : Nat → AH → Prop) (D : AH → Prop), (∀ j H H', J j H → Chg [] H H' → J j H') → (∀ H H', D H → Chg [] H H' → D H') → (∀ j H, J j H → Inv H) →
    (∀ j, j < n → ∀ H a, J j H → A j H a → Hx (callA ap k (.yield l) a 0 H) fun r => (r.1 = .bool true ∧ J (j + 1) r.2) ∨ (r.1 = .bool false ∧ D r.2)) →
    J 0 H0 → Hx (callA ap (k + 1) g [.yield l] 0 H0) fun r => J n r.2 ∨ D r.2

def stepOut (I : AH → Prop) (E : Ex → AH → Prop) (l d : Nat) (H : AH) (q : Ex × St) : Prop :=
  q.2.H[l]? = H[l]? ∧ q.2.H[d]? = H[d]? ∧ match q.1 with | .normal => I q.2.H | x => E x q.2.H
@[simp] theorem stepOut_normal {I : AH → Prop} {E : Ex → AH → Prop} {l d : Nat} {H : AH} {s : St} : stepOut I E l d H (.normal, s) = (s.H[l]? = H[l]? ∧ s.H[d]? = H[d]? ∧ I s.H) := propext ⟨fun h => h, fun h => h⟩
@[simp] theorem stepOut_exit {I : AH → Prop} {E : Ex → AH → Prop} {l d i : Nat} {H : AH} {s : St} : stepOut I E l d H (.exit i, s) = (s.H[l]? = H[l]? ∧ s.H[d]? = H[d]? ∧ E (.exit i) s.H) := propext ⟨fun h => h, fun h => h⟩
@[simp] theorem stepOut_ret {I : AH → Prop} {E : Ex → AH → Prop} {l d : Nat} {H : AH} {s : St} : stepOut I E l d H (.ret, s) = (s.H[l]? = H[l]? ∧ s.H[d]? = H[d]? ∧ E .ret s.H) := propext ⟨fun h => h, fun h => h⟩
@[congr] theorem stepOut_congr {I : AH → Prop} {E : Ex → AH → Prop} {l d : Nat} {H : AH} {q q' : Ex × St} (h : tag q = q') : stepOut I E l d H q = stepOut I E l d H q' := by cases h; rfl
/-- The assignment of what is handed over, then the round. -/
def asK (P : List AV → Prop) (H : AH) (r : Ex × St) : Prop := r.1 = .normal ∧ r.2.H = H ∧ P r.2.env
@[simp] theorem asK_normal {P : List AV → Prop} {H H' : AH} {env : List AV} {ms : List Nat} : asK P H (.normal, ⟨env, H', ms⟩) = (H' = H ∧ P env) := propext ⟨fun h => h.2, fun h => ⟨rfl, h⟩⟩
@[congr] theorem asK_congr {P : List AV → Prop} {H : AH} {q q' : Ex × St} (h : tag q = q') : asK P H q = asK P H q' := by cases h; rfl

theorem jumpEx_of : ∀ {x : Ex} {c : Code}, jumpOf x = some c → jumpEx c = some x
  | .ret, c, h => by cases h; rfl
  | .exit i, c, h => by cases h; rfl
  | .normal, c, h => by cases h

theorem jumpOf_some {x : Ex} (h : x ≠ .normal) : ∃ c, jumpOf x = some c := by cases x <;> first | exact absurd rfl h | exact ⟨_, rfl⟩
theorem hx_range {ap : AP} {k k' n : Nat} {s : St} {g : Operand} {ps : Array Tmp} {asx bd : AC} {Q : Ex × St → Prop} (A : Nat → AH → List AV → Prop) (Inv : AH → Prop) (I : Nat → AH → Prop) (E : Ex → AH → Prop)
    (hf : isFunc (opd s.env g) = true)
    (hg : Goes ap (k + 1) n (opd s.env g) A Inv (s.H ++ [.deferred false] ++ [.loop .ready none s.env ps asx bd s.H.length]) (s.H.length + 1))
    (hI : ∀ j H H', I j H → Chg [] H H' ∨ LS (s.H.length + 1) H H' → I j H') (hE : ∀ x H H', E x H → Chg [] H H' ∨ LS (s.H.length + 1) H H' → E x H')
    (hInv : ∀ j H, I j H → Inv H)
    (hA : ∀ j H H' a, A j H a → LS (s.H.length + 1) H H' → A j H' a) (hn : ∀ j H a, A j H a → a.length = ps.size)
    (h0 : I 0 s.H)
    (hb : ∀ j, j < n → ∀ H a, I j H → A j H a → ∀ H1, I j H1 → A j H1 a → isLoop H1[s.H.length + 1]? → isLoop H[s.H.length + 1]? → H1[s.H.length]? = some (.deferred false) →
      Hx (evCode ap (callA ap k) 0 (some (s.H.length + 1)) k asx ⟨setL s.env (ps.toList.zip a), H, []⟩) (asK (fun env => ∀ ms, Hx (evCode ap (callA ap k) 0 (some (s.H.length + 1)) k bd ⟨env, H1, ms⟩) (stepOut (I (j + 1)) E (s.H.length + 1) s.H.length H1)) H))
    (hq : ∀ H, I n H → H[s.H.length]? = some (.deferred false) → Q (.normal, ⟨s.env, H, s.H.length :: s.marks⟩))
    (hqe : ∀ x H, x ≠ .normal → E x H → H[s.H.length]? = some (.deferred false) → Q (x, ⟨s.env, H, s.H.length :: s.marks⟩)) :
    Hx (evCode ap (callA ap (k + 2)) 0 none k' (.range g ps asx bd) s) Q := by
  have hl0 : (s.H ++ [AB.deferred false] ++ [.loop .ready none s.env ps asx bd s.H.length])[s.H.length + 1]? = some (.loop .ready none s.env ps asx bd s.H.length) := by simp
  have hd0 : (s.H ++ [AB.deferred false] ++ [.loop .ready none s.env ps asx bd s.H.length])[s.H.length]? = some (.deferred false) := by simp
  have key := hg (fun j H => I j H ∧ H[s.H.length + 1]? = some (.loop .ready none s.env ps asx bd s.H.length) ∧ H[s.H.length]? = some (.deferred false))
    (fun H => ∃ x c, jumpOf x = some c ∧ E x H ∧ H[s.H.length + 1]? = some (.loop .done (some c) s.env ps asx bd s.H.length) ∧ H[s.H.length]? = some (.deferred false))
    (fun j H H' ⟨h1, h2, h3⟩ c => ⟨hI j H H' h1 (.inl c), c.get h2 (by simp), c.get h3 (by simp)⟩)
    (fun H H' ⟨x, c', h1, h2, h3, h4⟩ c => ⟨x, c', h1, hE x H H' h2 (.inl c), c.get h3 (by simp), c.get h4 (by simp)⟩) (fun j H ⟨h, _⟩ => hInv j H h)
    (fun j hj H a ⟨h1, h2, h3⟩ ha => by
      have hlt := lt_of_get h2
      obtain ⟨H1, hH1⟩ : ∃ H1, H1 = H.set (s.H.length + 1) (.loop .busy none s.env ps asx bd s.H.length) := ⟨_, rfl⟩
      have hls : LS (s.H.length + 1) H H1 := ⟨by rw [hH1]; exact Chg.set _ _ _, by rw [h2]; trivial⟩
      have g2 : H1[s.H.length + 1]? = some (.loop .busy none s.env ps asx bd s.H.length) := by rw [hH1, List.getElem?_set_self hlt]
      have g3 : H1[s.H.length]? = some (.deferred false) := by rw [hH1, List.getElem?_set_ne (by omega)]; exact h3
      have hbb := hb j hj H a h1 ha H1 (hI j H H1 h1 (.inr hls)) (hA j H H1 a ha hls) (by rw [g2]; trivial) (by rw [h2]; trivial) g3
      obtain ⟨r, e1, e2, e3, e4⟩ := hbb.ex
      obtain ⟨q, f1, f2, f3, f4⟩ := (e4 r.2.marks).ex
      simp only [callA]
      unfold roundA
      rw [h2]
      simp only
      rw [if_neg (by simp [hn j H a ha]), e1]
      simp only [Option.bind_some]
      rw [e2, e3, h2]
      simp only
      rw [← hH1, f1]
      simp only [Option.bind_some]
      rw [f2, g2]
      simp only
      have hlt2 := lt_of_get (f2.trans g2)
      refine Hx.som ?_
      obtain ⟨x, sq⟩ := q
      have hls2 : ∀ st pe, LS (s.H.length + 1) sq.H (sq.H.set (s.H.length + 1) (.loop st pe s.env ps asx bd s.H.length)) := fun st pe => ⟨Chg.set _ _ _, by rw [f2, g2]; trivial⟩
      have gd : ∀ A, (sq.H.set (s.H.length + 1) A)[s.H.length]? = some (.deferred false) := fun A => by rw [List.getElem?_set_ne (by omega)]; exact f3.trans g3
      cases hx : jumpOf x with
      | none =>
        cases x with
        | normal => exact .inl ⟨by simp, hI _ _ _ f4 (.inr (hls2 _ _)), List.getElem?_set_self hlt2, gd _⟩
        | exit i => cases hx
        | ret => cases hx
      | some c =>
        have f4' : E x sq.H := by
          cases x with
          | normal => cases hx
          | exit i => exact f4
          | ret => exact f4
        exact .inr ⟨by simp, x, c, hx, hE _ _ _ f4' (.inr (hls2 _ _)), List.getElem?_set_self hlt2, gd _⟩)
    ⟨hI _ _ _ h0 (.inl ((Chg.app _ _).tr (.app _ _))), hl0, hd0⟩
  obtain ⟨r, e, hr⟩ := key.ex
  simp only [evCode, hf]
  simp only [enterA, Option.bind_some, Bool.true_eq_false, if_false]
  have e' : callA ap (k + 2) (opd s.env g) [.yield (s.H ++ [AB.deferred false]).length] 0 (s.H ++ [AB.deferred false] ++ [.loop .ready none s.env ps asx bd s.H.length]) = some r := by
    rw [List.length_append]
    exact e
  rw [e']
  simp only [Option.bind_some, List.length_append, List.length_cons, List.length_nil, Nat.zero_add]
  unfold leaveA
  rcases hr with ⟨h1, h2, h3⟩ | ⟨x, c, h1, h2, h3, h4⟩
  · rw [h2]
    simp only
    rw [if_neg (by simp)]
    refine Hx.som (hq _ (hI _ _ _ h1 (.inr ⟨Chg.set _ _ _, by rw [h2]; trivial⟩)) ?_)
    rw [List.getElem?_set_ne (by omega)]; exact h3
  · rw [h3]
    simp only
    rw [if_neg (by simp), jumpEx_of h1]
    have hx : x ≠ .normal := fun e => by subst e; cases h1
    refine Hx.som (hqe x _ hx (hE _ _ _ h2 (.inr ⟨Chg.set _ _ _, by rw [h3]; trivial⟩)) ?_)
    rw [List.getElem?_set_ne (by omega)]; exact h4
end Go.Ab
end
section
/-! A function without arguments that was carried out once, from no memory: everywhere it tells the same. -/
set_option linter.unusedVariables false
set_option linter.unusedSimpArgs false
namespace Go.Ab
theorem Sim.calm {φ : Inj} {H : AH} {hp hp' : Array Obj} (h : Rel φ H hp) (hs : hp.size ≤ hp'.size) (hf : ∀ r, r < hp.size → hp'[r]? = hp[r]?) : Sim φ H hp φ H hp' where
  ext := Inj.le_refl φ
  new := fun _ _ e => .inl e
  rel := ⟨fun b p e => by
    obtain ⟨A, O, h1, h2, h3⟩ := h.blk b p e
    exact ⟨A, O, h1, by rw [hf _ (h.lt2 e)]; exact h2, h3⟩, h.excl⟩
  len := Nat.le_refl _
  size := hs
  frame := fun r hr _ => hf r hr
  img := fun b p A h1 h2 h3 => .inr ⟨b, p, A, h1, h2, h3, rfl⟩
  img2 := fun _ _ e => .inl e
theorem Agree.set {P : Program} {ap : AP} (h : Agree P ap) (g : Nat → Bool) (b : Bool) : Agree P { ap with gc := g, pl := b } where
  mixed := h.mixed
  ty := h.ty
  ext := h.ext
  fn := h.fn
  prim := h.prim
def knownPrim (k : Nat) : Nat → Option (List AV → Nat → AH → Option (AV × AH)) := fun f => if f = k then some (fun args _ H => if args.isEmpty then some (.bool true, H) else none) else none
theorem knownOk {P : Program} {ap : AP} (hg : Agree P ap) {k n : Nat} (hp : ap.prim n = none) (h : (callA ap k (.func n [] []) [] 0 []).map (·.1) = some (.bool true)) : ∀ f g, knownPrim n f = some g → PrimOk P f g := by
  intro f g hfg
  unfold knownPrim at hfg
  split at hfg
  · rename_i hfn
    subst hfn
    cases hfg
    intro φ H w args args' lo v H' h1 hr he
    simp only at h1
    split at h1
    · rename_i hemp
      cases h1
      obtain rfl : args = [] := by simpa using hemp
      obtain rfl : args' = #[] := by
        have := he.1
        simp at this
        exact Array.eq_empty_of_size_eq_zero this.symm
      obtain ⟨⟨v0, H0⟩, e0, e1⟩ := Option.map_eq_some_iff.1 h
      simp only at e1
      subst e1
      cases k with
      | zero => simp only [callA] at e0; cases e0
      | succ k =>
        simp only [callA, hp, List.nil_append, List.append_nil] at e0
        obtain ⟨g1, g2⟩ := sound_fn hg (sound_call hg k) e0 (Rel.empty w.heap) (show ER (fun _ => none) [] #[] from ⟨rfl, fun i a v h => by simp at h⟩)
        refine ⟨g1, (callsIn_wide.1 (g2 0)).mono ?_⟩
        rintro e w' ⟨v', φ', h1, h2, h3⟩
        cases h3
        refine ⟨_, φ, h1, ⟨Sim.calm hr h2.size (fun r hr' => h2.frame r hr' fun b p A e => by cases e), h2.str⟩, .bool true⟩
    · cases h1
  · cases hfg
def knownG : List AV → Nat → AH → Option (AV × AH) := fun args _ H => if args.isEmpty then some (.bool true, H) else none
theorem Agree.known {P : Program} {ap : AP} (hg : Agree P ap) {k n : Nat} (hp : ap.prim n = none) (h : (callA ap k (.func n [] []) [] 0 []).map (·.1) = some (.bool true)) : Agree P { ap with prim := fun f => if f = n then some knownG else ap.prim f } where
  mixed := hg.mixed
  ty := hg.ty
  ext := hg.ext
  fn := hg.fn
  prim := fun f g hfg => by
    simp only at hfg
    split at hfg
    · rename_i hf
      cases hfg
      exact knownOk hg hp h f _ (by unfold knownPrim; rw [if_pos hf]; rfl)
    · exact hg.prim f g hfg
theorem agree_known {P : Program} {ap : AP} (hg : Agree P ap) {k n : Nat} (hp : ∀ f, ap.prim f = none) (h : (callA ap k (.func n [] []) [] 0 []).map (·.1) = some (.bool true)) : Agree P { ap with prim := knownPrim n } where
  mixed := hg.mixed
  ty := hg.ty
  ext := hg.ext
  fn := hg.fn
  prim := knownOk hg (hp n) h
end Go.Ab
end
section
/-! Arguments of any shape (whole numbers, bools, strings, structs, slices of them): their reading. -/
set_option linter.unusedVariables false
set_option linter.unusedSimpArgs false
namespace Go.Ab
/-- What an argument's cells look like. -/
def AR (ap : AP) : Nat → AH → Nat → List AV → Prop
  | 0, _, _, _ => False
  | n + 1, H, t, asx => ∃ ti, ap.ty t = some ti ∧ match ti.td with
    | .bool => ∃ b, asx = [.bool b]
    | .int k => ∃ z, asx = [.int k z] ∧ (Lit.int k z).wf = true
    | .string => ∃ s : ByteArray, asx = [.str s]
    | .slice e => asx = [.slice none 0 (some 0) 0] ∨ ∃ (b len cap : Nat) (es : List (List AV)) (te : TI), ap.ty e = some te ∧ 0 < te.sz ∧ asx = [.slice (some (b, 0)) len (some cap) te.sz] ∧ rowOf H b = some es.flatten ∧ es.length = len ∧ len ≤ cap ∧ ∀ x ∈ es, x.length = te.sz ∧ AR ap n H e x
    | .struct fs => ∃ parts : List (List AV), asx = parts.flatten ∧ parts.length = fs.length ∧ ∀ (i : Nat) f p, fs[i]? = some f → parts[i]? = some p → ∃ tf, ap.ty f.2 = some tf ∧ p.length = tf.sz ∧ AR ap n H f.2 p
    | _ => False
theorem AR.keep {ap : AP} : ∀ {n : Nat} {H H' : AH} {t : Nat} {asx : List AV}, AR ap n H t asx → Chg [] H H' → AR ap n H' t asx
  | 0, _, _, _, _, h, _ => by cases h
  | n + 1, H, H', t, asx, ⟨ti, h1, h2⟩, c => by
    refine ⟨ti, h1, ?_⟩
    revert h2
    cases ti.td <;> simp only <;> try exact id
    · rename_i e
      rintro (h | ⟨b, len, cap, es, te, g1, g2, g3, g4, g5, g6, g7⟩)
      · exact .inl h
      · exact .inr ⟨b, len, cap, es, te, g1, g2, g3, c.row g4 (by simp), g5, g6, fun x hx => ⟨(g7 x hx).1, (g7 x hx).2.keep c⟩⟩
    · rename_i fs
      rintro ⟨parts, g1, g2, g3⟩
      refine ⟨parts, g1, g2, fun i f p h1 h2 => ?_⟩
      obtain ⟨tf, k1, k2, k3⟩ := g3 i f p h1 h2
      exact ⟨tf, k1, k2, k3.keep c⟩
/-- Fields lie one behind the other. -/
def offOk (ap : AP) : Nat → List (Nat × Nat) → Option Nat
  | o, [] => some o
  | o, f :: r => if f.1 = o then (ap.ty f.2).bind fun tf => offOk ap (o + tf.sz) r else none
/-- Types that are read. -/
def okT (ap : AP) : Nat → Nat → Bool
  | 0, _ => false
  | n + 1, t => match ap.ty t with
    | none => false
    | some ti => match ti.td with
      | .bool | .int _ | .string => ti.sz == 1
      | .slice e => ti.sz == 1 && (match ap.ty e with | some te => decide (0 < te.sz) | none => false) && okT ap n e
      | .struct fs => offOk ap 0 fs == some ti.sz && fs.all fun f => okT ap n f.2
      | _ => false
def HasBlk (w : World) : Prop := ∃ (b : Nat) (c : Array Value) (e : TypeId) (fr : Nat × Nat), w.heap[b]? = some (.cells c e fr)
/-- Cells, read. -/
def Opn (ap : AP) (n : Nat) (φ : Inj) (H : AH) (w : World) (t : Nat) (cs : List Value) : Prop :=
  ∃ φ' X asx, Rel φ' (H ++ X) w.heap ∧ NoOwn (H ++ X) ∧ φ.le φ' ∧ asx.length = cs.length ∧ (∀ (i : Nat) (a : AV) (v : Value), asx[i]? = some a → cs[i]? = some v → VR φ' a v) ∧ AR ap n (H ++ X) t asx
theorem noOwn_app {H X : AH} (h : NoOwn H) (g : NoOwn X) : NoOwn (H ++ X) := fun A hA => (List.mem_append.1 hA).elim (h A) (g A)
theorem one_vr {φ : Inj} {a : AV} {v : Value} (h : VR φ a v) : ∀ (i : Nat) (x : AV) (y : Value), [a][i]? = some x → [v][i]? = some y → VR φ x y := fun i x y h1 h2 => by
  cases i with
  | zero => simp at h1 h2; subst h1; subst h2; exact h
  | succ i => simp at h1
theorem scalar_opn {ap : AP} {n : Nat} {φ : Inj} {H : AH} {w : World} {t : Nat} {a : AV} {v : Value} (hr : Rel φ H w.heap) (hn : NoOwn H) (h : VR φ a v) (g : AR ap n H t [a]) : Opn ap n φ H w t [v] :=
  ⟨φ, [], [a], by rwa [List.append_nil], by rwa [List.append_nil], Inj.le_refl φ, rfl, one_vr h, by rwa [List.append_nil]⟩
theorem cells_len {w : World} {base : Nat} {a : Addr} {n : Nat} {cs : List Value} (h : w.cells? base a n = some cs) : cs.length = n ∧ ∀ i, i < n → w.cell? (a.add i) = cs[i]? := by
  have := World.cells?_some h
  exact ⟨this.2.1, fun i hi => this.2.2 i hi⟩

section
variable {Hh : Type} {enc : TypeId × Value → Hh} {P : Program} {w : World} {base : Nat} {ap : AP}
/-- Several in a row. -/
theorem opn_list {n : Nat} (css : List (List Value)) (ts : List Nat) (hts : ts.length = css.length)
    (ih : ∀ (i : Nat) t cs, ts[i]? = some t → css[i]? = some cs → ∀ φ H, Rel φ H w.heap → NoOwn H → Opn ap n φ H w t cs) (φ : Inj) (H : AH) (hr : Rel φ H w.heap) (hn : NoOwn H) :
    ∃ (φ' : Inj) (X : AH) (ass : List (List AV)), Rel φ' (H ++ X) w.heap ∧ NoOwn (H ++ X) ∧ φ.le φ' ∧ ass.length = css.length ∧ (∀ (i : Nat) asx cs, ass[i]? = some asx → css[i]? = some cs → asx.length = cs.length ∧ ∀ (j : Nat) (a : AV) (v : Value), asx[j]? = some a → cs[j]? = some v → VR φ' a v) ∧
      ∀ (i : Nat) asx t, ass[i]? = some asx → ts[i]? = some t → AR ap n (H ++ X) t asx := by
  induction css generalizing ts φ H with
  | nil => exact ⟨φ, [], [], by rwa [List.append_nil], by rwa [List.append_nil], Inj.le_refl φ, rfl, fun i asx cs h => by simp at h, fun i asx t h => by simp at h⟩
  | cons cs css IH =>
    cases ts with
    | nil => simp at hts
    | cons t ts =>
      obtain ⟨φ1, X1, as1, r1, n1, l1, len1, v1, a1⟩ := ih 0 t cs rfl rfl φ H hr hn
      obtain ⟨φ2, X2, ass, r2, n2, l2, len2, v2, a2⟩ := IH ts (by simpa using hts) (fun i t cs h1 h2 => ih (i + 1) t cs (by simpa using h1) (by simpa using h2)) φ1 (H ++ X1) r1 n1
      refine ⟨φ2, X1 ++ X2, as1 :: ass, by rw [← List.append_assoc]; exact r2, by rw [← List.append_assoc]; exact n2, Inj.le_trans l1 l2, by simp [len2], fun i asx cs' h1 h2 => ?_, fun i asx t' h1 h2 => ?_⟩
      · cases i with
        | zero =>
          simp at h1 h2; subst h1; subst h2
          exact ⟨len1, fun j a v e1 e2 => (v1 j a v e1 e2).mono l2⟩
        | succ i => exact v2 i asx cs' (by simpa using h1) (by simpa using h2)
      · rw [← List.append_assoc]
        cases i with
        | zero =>
          simp at h1 h2; subst h1; subst h2
          exact a1.keep (.app _ _)
        | succ i => exact a2 i asx t' (by simpa using h1) (by simpa using h2)

theorem cell_blk {a : Addr} {v : Value} (h : w.cell? a = some v) : a.spot = none ∧ ∃ c e fr, w.heap[a.block]? = some (.cells c e fr) ∧ c[a.off]? = some v := by
  unfold World.cell? at h
  split at h
  · rename_i c e fr hb
    split at h
    · cases h
    · rename_i hs
      refine ⟨by simpa using hs, c, e, fr, hb, h⟩
  · cases h
theorem add_off (a : Addr) (h : a.spot = none) (i : Nat) : a.add i = ⟨a.block, a.off + i, none⟩ := by
  obtain ⟨b, o, s⟩ := a
  simp only at h
  subst h
  unfold Addr.add
  split <;> simp_all
theorem flatten_get {α : Type} {sz : Nat} (hz : 0 < sz) : ∀ (l : List (List α)), (∀ x ∈ l, x.length = sz) → ∀ (i j : Nat), j < sz → l.flatten[i * sz + j]? = (l[i]?).bind fun x => x[j]?
  | [], _, i, j, _ => by simp
  | x :: l, h, i, j, hj => by
    have hx := h x (by simp)
    cases i with
    | zero =>
      simp only [Nat.zero_mul, Nat.zero_add, List.flatten_cons, List.getElem?_cons_zero, Option.bind_some]
      rw [List.getElem?_append_left (by omega)]
    | succ i =>
      rw [List.flatten_cons, List.getElem?_append_right (by rw [hx, Nat.add_mul]; omega), hx, show (i + 1) * sz + j - sz = i * sz + j by rw [Nat.add_mul]; omega]
      simpa using flatten_get hz l (fun y hy => h y (by simp [hy])) i j hj
theorem flatten_len {α : Type} {sz : Nat} : ∀ (l : List (List α)), (∀ x ∈ l, x.length = sz) → l.flatten.length = l.length * sz
  | [], _ => by simp
  | x :: l, h => by
    rw [List.flatten_cons, List.length_append, h x (by simp), flatten_len l (fun y hy => h y (by simp [hy])), List.length_cons, Nat.add_mul]
    omega

theorem flat_rel {φ : Inj} : ∀ (ass : List (List AV)) (css : List (List Value)), ass.length = css.length → (∀ (i : Nat) asx cs, ass[i]? = some asx → css[i]? = some cs → asx.length = cs.length ∧ ∀ (j : Nat) (a : AV) (v : Value), asx[j]? = some a → cs[j]? = some v → VR φ a v) →
    ass.flatten.length = css.flatten.length ∧ ∀ (j : Nat) (a : AV) (v : Value), ass.flatten[j]? = some a → css.flatten[j]? = some v → VR φ a v
  | [], [], _, _ => ⟨rfl, fun j a v h => by simp at h⟩
  | [], _ :: _, h, _ => by simp at h
  | _ :: _, [], h, _ => by simp at h
  | asx :: ass, cs :: css, h, g => by
    obtain ⟨l0, v0⟩ := g 0 asx cs rfl rfl
    obtain ⟨l1, v1⟩ := flat_rel ass css (by simpa using h) (fun i asx cs h1 h2 => g (i + 1) asx cs (by simpa using h1) (by simpa using h2))
    refine ⟨by simp only [List.flatten_cons, List.length_append]; omega, fun j a v h1 h2 => ?_⟩
    rw [List.flatten_cons] at h1 h2
    by_cases hj : j < asx.length
    · rw [List.getElem?_append_left hj] at h1
      rw [List.getElem?_append_left (by omega)] at h2
      exact v0 j a v h1 h2
    · rw [List.getElem?_append_right (by omega)] at h1 h2
      rw [← l0] at h2
      exact v1 _ a v h1 h2
def szOf (ap : AP) (t : Nat) : Nat := ((ap.ty t).map TI.sz).getD 0
theorem off_parts : ∀ (fs : List (Nat × Nat)) (o e : Nat) (cs : List Value), offOk ap o fs = some e → e ≤ cs.length → o ≤ e ∧ (fs.map fun f => (cs.drop f.1).take (szOf ap f.2)).flatten = (cs.drop o).take (e - o)
  | [], o, e, cs, h, _ => by simp only [offOk, Option.some.injEq] at h; subst h; simp
  | f :: r, o, e, cs, h, hl => by
    simp only [offOk] at h
    split at h
    · rename_i ho
      obtain ⟨tf, h1, h2⟩ := Option.bind_eq_some_iff.1 h
      obtain ⟨g1, g2⟩ := off_parts r (o + tf.sz) e cs h2 hl
      refine ⟨by omega, ?_⟩
      have hs : szOf ap f.2 = tf.sz := by simp [szOf, h1]
      rw [List.map_cons, List.flatten_cons, g2, ho, hs, show e - o = tf.sz + (e - (o + tf.sz)) by omega, List.take_add, List.drop_drop]
    · cases h
theorem opn (hg : TyAgree P ap) : ∀ (n : Nat) (t : Nat) (cs : List Value) (x : DataW Hh × List MemPlace), DataW.trod enc P w base (fun _ => true) true n t cs = some x → ∀ m, okT ap m t = true →
    ((∃ a len cap, Value.slice (some a) len cap ∈ cs) → HasBlk w) → ∀ (φ : Inj) (H : AH), Rel φ H w.heap → NoOwn H → Opn ap m φ H w t cs
  | 0, t, cs, x, h => by simp [DataW.trod] at h
  | n + 1, t, cs, x, h => by
    intro m hok hblk φ H hr hn
    cases m with
    | zero => cases hok
    | succ m =>
    unfold okT at hok
    cases hti : ap.ty t with
    | none => rw [hti] at hok; cases hok
    | some ti =>
      rw [hti] at hok
      simp only at hok
      obtain ⟨inf, d, z, tok⟩ := hg.get hti
      have htd := tok.td
      cases htd' : ti.td with
      | bool =>
        rw [htd'] at hok htd
        have hd : d = .bool := by cases d <;> simp [tdOf] at htd <;> first | rfl | (split at htd <;> simp at htd)
        subst hd
        obtain ⟨b, rfl, _⟩ := DataW.trod_bool tok.hd h
        exact scalar_opn hr hn (.bool b) ⟨ti, hti, by rw [htd']; exact ⟨b, rfl⟩⟩
      | int k =>
        rw [htd'] at hok htd
        have hd : d = .int k := by cases d <;> simp [tdOf] at htd <;> first | (subst htd; rfl) | (split at htd <;> simp at htd)
        subst hd
        obtain ⟨z, rfl, _, hw⟩ := DataW.trod_int tok.hd h
        exact scalar_opn hr hn (.int k z) ⟨ti, hti, by rw [htd']; exact ⟨z, rfl, hw⟩⟩
      | string =>
        rw [htd'] at hok htd
        have hd : d = .string := by cases d <;> simp [tdOf] at htd <;> first | rfl | (split at htd <;> simp at htd)
        subst hd
        obtain ⟨s, rfl, _, _⟩ := DataW.trod_string tok.hd h
        exact scalar_opn hr hn (.str s) ⟨ti, hti, by rw [htd']; exact ⟨s, rfl⟩⟩
      | slice e =>
        rw [htd'] at hok htd
        have hd : d = .slice e := by cases d <;> simp [tdOf] at htd <;> first | (subst htd; rfl) | (split at htd <;> simp at htd)
        subst hd
        simp only [Bool.and_eq_true] at hok
        obtain ⟨⟨hsz, hte⟩, hoe⟩ := hok
        cases he : ap.ty e with
        | none => rw [he] at hte; cases hte
        | some te =>
        rw [he] at hte
        have hz : 0 < te.sz := by simpa using hte
        obtain ⟨infe, de, ze, tek⟩ := hg.get he
        have hcell : P.cellsOf e = te.sz := by
          unfold Program.cellsOf
          rw [tek.hi, tek.sz]
          rfl
        rcases DataW.trod_slice tok.hd h with ⟨rfl, _⟩ | ⟨a, len, cap, elems, rest, n', hn', rfl, _, hb, hl, _, hlen, hel, hsp, _⟩
        · exact scalar_opn hr hn (.sliceN _ _) ⟨ti, hti, by rw [htd']; exact .inl rfl⟩
        · cases hn'
          obtain ⟨hrl, hrest⟩ := hsp rfl
          rw [hcell] at hel hrest
          -- every element's cells
          have hcs : ∀ i, i < len → ∃ cs' x', w.cells? base (a.add (i * te.sz)) te.sz = some cs' ∧ DataW.trod enc P w base (fun _ => true) true n e cs' = some x' := fun i hi => by
            have h1 := hel i hi
            have h2 : elems[i]? = some elems[i] := List.getElem?_eq_getElem (by omega)
            rw [h2] at h1
            obtain ⟨cs', h3, h4⟩ := Option.bind_eq_some_iff.1 h1
            exact ⟨cs', _, h3, h4⟩
          have hcap : ∀ i, i < cap → ∃ cs', w.cells? base (a.add (i * te.sz)) te.sz = some cs' := fun i hi => by
            by_cases hil : i < len
            · obtain ⟨cs', x', h1, _⟩ := hcs i hil
              exact ⟨cs', h1⟩
            · have h1 := hrest (i - len) (by omega)
              rw [show len + (i - len) = i by omega] at h1
              have h2 : rest[i - len]? = some rest[i - len] := List.getElem?_eq_getElem (by omega)
              rw [h2] at h1
              obtain ⟨cs', h3, h4⟩ := Option.bind_eq_some_iff.1 h1
              exact ⟨cs', h3⟩
          -- where it lies
          have hplace : ∃ (b0 : Nat) (c : Array Value) (et : TypeId) (fr : Nat × Nat), w.heap[b0]? = some (.cells c et fr) ∧ ((b0 = a.block ∧ a.spot = none ∧ a.off + cap * te.sz ≤ c.size) ∨ cap = 0) := by
            by_cases hc0 : cap = 0
            · obtain ⟨b0, c, et, fr, hb0⟩ := hblk ⟨a, len, cap, by simp⟩
              exact ⟨b0, c, et, fr, hb0, .inr hc0⟩
            · have hs : a.spot = none := by
                obtain ⟨cs', h1⟩ := hcap 0 (by omega)
                obtain ⟨l1, l2⟩ := cells_len h1
                have h3 := l2 0 hz
                have h4 : cs'[0]? = some cs'[0] := List.getElem?_eq_getElem (by omega)
                rw [h4, Nat.zero_mul, show (a.add 0).add 0 = a by simp [Addr.add]] at h3
                exact (cell_blk h3).1
              obtain ⟨cs', h1⟩ := hcap (cap - 1) (by omega)
              obtain ⟨l1, l2⟩ := cells_len h1
              have h3 := l2 (te.sz - 1) (by omega)
              have h4 : cs'[te.sz - 1]? = some cs'[te.sz - 1] := List.getElem?_eq_getElem (by omega)
              rw [h4] at h3
              obtain ⟨s1, c, et, fr, s2, s3⟩ := cell_blk h3
              rw [add_off a hs, add_off _ rfl] at s2 s3
              refine ⟨a.block, c, et, fr, s2, .inl ⟨rfl, hs, ?_⟩⟩
              have := (Array.getElem?_eq_some_iff.1 s3).1
              simp only at this
              have e1 : (cap - 1) * te.sz + te.sz = cap * te.sz := by
                rw [← Nat.succ_mul]
                congr 1
                omega
              omega
          obtain ⟨b0, c, et, fr, hb0, hpl⟩ := hplace
          have hB : HasBlk w := ⟨b0, c, et, fr, hb0⟩
          -- the elements
          have hex : ∃ css : List (List Value), css.length = len ∧ ∀ i, i < len → ∃ cs' x', css[i]? = some cs' ∧ w.cells? base (a.add (i * te.sz)) te.sz = some cs' ∧ DataW.trod enc P w base (fun _ => true) true n e cs' = some x' := by
            refine ⟨(List.range len).map fun i => (w.cells? base (a.add (i * te.sz)) te.sz).getD [], by simp, fun i hi => ?_⟩
            obtain ⟨cs', x', h1, h2⟩ := hcs i hi
            exact ⟨cs', x', by simp [hi, h1], h1, h2⟩
          obtain ⟨css, hcl, hce⟩ := hex
          obtain ⟨φ', X, ass, r', n', l', al, av, aa⟩ := opn_list (ap := ap) (n := m) css (List.replicate len e) (by simp [hcl]) (fun i t cs h1 h2 => by
            have hi : i < len := by
              have := (List.getElem?_eq_some_iff.1 h2).1
              omega
            obtain ⟨cs', x', g1, g2, g3⟩ := hce i hi
            rw [g1] at h2
            cases h2
            simp [hi] at h1
            subst h1
            exact opn hg n e _ x' g3 m hoe (fun _ => hB)) φ H hr hn
          have hlenE : ∀ x ∈ ass, x.length = te.sz := fun x hx => by
            obtain ⟨i, hi⟩ := List.getElem?_of_mem hx
            have hil : i < len := by
              have := (List.getElem?_eq_some_iff.1 hi).1
              omega
            obtain ⟨cs', x', g1, g2, g3⟩ := hce i hil
            rw [(av i x cs' hi g1).1]
            exact (cells_len g2).1
          have hfl := flatten_len ass hlenE
          rw [al, hcl] at hfl
          -- its block
          have hlr : cap ≠ 0 → LR φ' ass.flatten c a.off := fun hc0 i v hv => by
            obtain ⟨q1, q2, q3⟩ := hpl.resolve_right hc0
            have hi : i < len * te.sz := by
              have := (List.getElem?_eq_some_iff.1 hv).1
              omega
            have hdiv : i / te.sz < len := (Nat.div_lt_iff_lt_mul hz).2 hi
            have hmod := Nat.mod_lt i hz
            have hidx : i / te.sz * te.sz + i % te.sz = i := by rw [Nat.mul_comm]; exact Nat.div_add_mod i te.sz
            rw [← hidx, flatten_get hz ass hlenE _ _ hmod] at hv
            obtain ⟨x, e1, e2⟩ := Option.bind_eq_some_iff.1 hv
            obtain ⟨cs', x', g1, g2, g3⟩ := hce _ hdiv
            obtain ⟨v1, v2⟩ := av _ x cs' e1 g1
            obtain ⟨l1, l2⟩ := cells_len g2
            have hcj : cs'[i % te.sz]? = some cs'[i % te.sz] := List.getElem?_eq_getElem (by omega)
            have h3 := l2 _ hmod
            rw [hcj] at h3
            obtain ⟨s1, c', et', fr', s2, s3⟩ := cell_blk h3
            rw [add_off a q2, add_off _ rfl] at s2 s3
            simp only at s2 s3
            rw [← q1, hb0] at s2
            cases s2
            refine ⟨_, ?_, v2 _ v _ e2 hcj⟩
            rw [← s3]
            congr 1
            omega
          have hnil : cap = 0 → ass.flatten = [] := fun hc0 => by
            have : len = 0 := by omega
            rw [this, Nat.zero_mul] at hfl
            exact List.eq_nil_of_length_eq_zero hfl
          have hd : a.off + len * te.sz ≤ a.off + cap * te.sz := by
            have := Nat.mul_le_mul_right te.sz hl
            omega
          obtain ⟨p, hp1, hpb, hva⟩ : ∃ p : PL, p.blk = b0 ∧ BR (upd φ' (H ++ X).length p) p (.cells ass.flatten .ro) (.cells c et fr) ∧ VR (upd φ' (H ++ X).length p) (.slice (some ((H ++ X).length, 0)) len (some cap) te.sz) (.slice (some a) len cap) := by
            by_cases hc0 : cap = 0
            · refine ⟨⟨b0, 0, c.size⟩, rfl, .cells _ _ c et fr rfl (by rw [hnil hc0]; simp) (fun i v hv => by rw [hnil hc0] at hv; simp at hv) (fun q => by cases q) (fun q => by cases q), ?_⟩
              refine .slice _ _ _ _ _ _ _ _ (upd_self _ _ _) (.inr hc0) hl (by subst hc0; simp) (.inl ⟨_, rfl, rfl⟩)
            · obtain ⟨q1, q2, q3⟩ := hpl.resolve_right hc0
              refine ⟨⟨b0, a.off, c.size⟩, rfl, .cells _ _ c et fr rfl (by show a.off + ass.flatten.length ≤ c.size; omega) ((hlr hc0).mono (r'.upd_le _)) (fun q => by cases q) (fun q => by cases q), ?_⟩
              refine .slice _ _ _ _ _ _ _ _ (upd_self _ _ _) (.inl ?_) hl (by show a.off + 0 + cap * te.sz ≤ c.size; omega) (.inl ⟨_, rfl, rfl⟩)
              obtain ⟨ab, ao, as_⟩ := a
              simp only at q1 q2
              subst q1 q2
              rfl
          subst hp1
          have hro := r'.ro n' hb0 hpb
          rw [List.append_assoc] at hro
          refine ⟨_, X ++ [.cells ass.flatten .ro], [.slice (some ((H ++ X).length, 0)) len (some cap) te.sz], hro, by rw [← List.append_assoc]; exact n'.ro _, Inj.le_trans l' (r'.upd_le _), rfl, one_vr hva, ti, hti, ?_⟩
          rw [htd']
          refine .inr ⟨(H ++ X).length, len, cap, ass, te, he, hz, rfl, ?_, by rw [al, hcl], hl, fun x hx => ⟨hlenE x hx, ?_⟩⟩
          · rw [← List.append_assoc]; simp [rowOf]
          · obtain ⟨i, hi⟩ := List.getElem?_of_mem hx
            have hil : i < len := by
              have := (List.getElem?_eq_some_iff.1 hi).1
              omega
            rw [← List.append_assoc]
            exact (aa i x e hi (by simp [hil])).keep (.app _ _)
      | struct fs =>
        rw [htd'] at hok htd
        simp only [Bool.and_eq_true, beq_iff_eq, List.all_eq_true] at hok
        obtain ⟨hoff, hall⟩ := hok
        have hd : ∃ fs', d = .struct fs' ∧ fs = fs'.toList.map fun f => (f.offset, f.type) := by
          cases d <;> simp only [tdOf] at htd <;> try (cases htd; done)
          rename_i fs'
          split at htd
          · cases htd; exact ⟨fs', rfl, rfl⟩
          · cases htd
        obtain ⟨fs', rfl, hfs⟩ := hd
        obtain ⟨xs, n', hn', _, hcl, hxl, hxe⟩ := DataW.trod_struct tok.hd h
        cases hn'
        have hsz : P.cellsOf t = ti.sz := by
          unfold Program.cellsOf
          rw [tok.hi, tok.sz]
          rfl
        rw [hsz] at hcl
        obtain ⟨_, hpart⟩ := off_parts fs 0 ti.sz cs hoff (by omega)
        rw [List.drop_zero, Nat.sub_zero, List.take_of_length_le (by omega)] at hpart
        have hsf : ∀ f ∈ fs, ∃ tf, ap.ty f.2 = some tf ∧ P.cellsOf f.2 = tf.sz := fun f hf => by
          have := hall f hf
          cases m with
          | zero => cases this
          | succ m =>
            unfold okT at this
            cases hf2 : ap.ty f.2 with
            | none => rw [hf2] at this; cases this
            | some tf =>
              obtain ⟨i2, d2, z2, k2⟩ := hg.get hf2
              refine ⟨tf, rfl, ?_⟩
              unfold Program.cellsOf
              rw [k2.hi, k2.sz]
              rfl
        obtain ⟨φ', X, ass, r', n', l', al, av, aa⟩ := opn_list (ap := ap) (n := m) (fs.map fun f => (cs.drop f.1).take (szOf ap f.2)) (fs.map (·.2)) (by simp) (fun i t' cs' h1 h2 => by
          rw [List.getElem?_map] at h1 h2
          cases hfi : fs[i]? with
          | none => rw [hfi] at h1; cases h1
          | some f =>
            rw [hfi] at h1 h2
            cases h1; cases h2
            obtain ⟨tf, k1, k2⟩ := hsf f (List.mem_of_getElem? hfi)
            have hfi' : ∃ f', fs'[i]? = some f' ∧ f = (f'.offset, f'.type) := by
              rw [hfs, List.getElem?_map] at hfi
              cases hq : fs'.toList[i]? with
              | none => rw [hq] at hfi; cases hfi
              | some f' =>
                rw [hq] at hfi
                cases hfi
                exact ⟨f', by simpa using hq, rfl⟩
            obtain ⟨f', q1, rfl⟩ := hfi'
            have q2 := hxe i f' q1
            have q3 : xs[i]? = some (xs[i]'(by have := (Array.getElem?_eq_some_iff.1 q1).1; omega)) := List.getElem?_eq_getElem _
            rw [q3] at q2
            have hs : szOf ap f'.type = P.cellsOf f'.type := by
              simp only at k1 k2
              rw [k2]
              simp [szOf, k1]
            simp only
            rw [hs]
            refine opn hg n f'.type _ _ q2 m (hall _ (List.mem_of_getElem? hfi)) (fun ⟨a, len, cap, hm⟩ => hblk ⟨a, len, cap, List.mem_of_mem_drop (List.mem_of_mem_take hm)⟩)) φ H hr hn
        obtain ⟨fl, fv⟩ := flat_rel ass _ al av
        rw [hpart] at fl fv
        refine ⟨φ', X, ass.flatten, r', n', l', fl, fv, ti, hti, ?_⟩
        rw [htd']
        refine ⟨ass, rfl, by rw [al]; simp, fun i f p h1 h2 => ?_⟩
        obtain ⟨tf, k1, k2⟩ := hsf f (List.mem_of_getElem? h1)
        obtain ⟨v1, _⟩ := av i p ((cs.drop f.1).take (szOf ap f.2)) h2 (by rw [List.getElem?_map, h1]; rfl)
        refine ⟨tf, k1, ?_, aa i p f.2 h2 (by rw [List.getElem?_map, h1]; rfl)⟩
        rw [v1]
        -- the piece is asx long asx its type
        have hoo : ∀ (gs : List (Nat × Nat)) (o e : Nat), offOk ap o gs = some e → ∀ g ∈ gs, g.1 + szOf ap g.2 ≤ e := by
          intro gs
          induction gs with
          | nil => intro o e _ g hg; cases hg
          | cons a r IH =>
            intro o e hoe g hgm
            simp only [offOk] at hoe
            split at hoe
            · rename_i hao
              obtain ⟨ta, h1, h2⟩ := Option.bind_eq_some_iff.1 hoe
              rcases List.mem_cons.1 hgm with rfl | hgm
              · have := (off_parts (ap := ap) r (o + ta.sz) e (List.replicate e (.bool true)) h2 (by simp)).1
                simp only [szOf, h1, Option.map_some, Option.getD_some]
                omega
              · exact IH _ _ h2 g hgm
            · cases hoe
        have := hoo fs 0 ti.sz hoff f (List.mem_of_getElem? h1)
        have hsf2 : szOf ap f.2 = tf.sz := by simp [szOf, k1]
        simp only [List.length_take, List.length_drop]
        omega
      | _ => rw [htd'] at hok; cases hok
end
end Go.Ab
end
section
/-! From a law's row to its carrying out. -/
set_option linter.unusedVariables false
set_option linter.unusedSimpArgs false
namespace Go.Ab
open Go.WideShapes Go.RowKit
theorem cell_has {P : Program} {w : World} {r : Reach} {base : Nat} {u : TypeId} {a : Addr} {len cap : Nat} (h : Cell.okWide P w r base u (.slice (some a) len cap)) : HasBlk w := by
  have h2 : Cell.ok P w r base u (.slice (some a) len cap) := by
    unfold Cell.okWide at h
    cases hu : P.underlying u with
    | none => rw [hu] at h; exact h
    | some d => rw [hu] at h; cases d <;> exact h
  unfold Cell.ok at h2
  cases hu : P.underlying u with
  | none => rw [hu] at h2; exact h2.elim
  | some d =>
    rw [hu] at h2
    cases d with
    | slice e =>
      obtain ⟨_, _, h3⟩ := h2
      simp only [World.has] at h3
      obtain ⟨_, _, row, cells, h4, _⟩ := h3
      unfold World.shape? at h4
      split at h4
      · rename_i c e' fr h5; exact ⟨_, c, e', fr, h5⟩
      · cases h4
    | _ => exact h2.elim
theorem val_has {P : Program} {w : World} {r : Reach} {base : Nat} {t : TypeId} {v : Value} (h : Value.okWide P w r base t v) (g : ∃ a len cap, Value.slice (some a) len cap ∈ v.cells.toList) : HasBlk w := by
  obtain ⟨a, len, cap, hm⟩ := g
  unfold Value.okWide at h
  have row : ∀ cs, v = .agg cs → Row.okWide P w r base t cs → HasBlk w := fun cs hv hr => by
    subst hv
    obtain ⟨ts, _, _, h3⟩ := hr
    obtain ⟨i, hi⟩ := List.getElem?_of_mem hm
    obtain ⟨u, _, h4⟩ := h3 i _ (by simpa [Value.cells] using hi)
    exact cell_has h4
  have cell : Cell.okWide P w r base t v → HasBlk w := fun h => by
    cases v <;> first
      | (simp [Value.cells] at hm; done)
      | skip
    · rename_i a' l' c'
      simp [Value.cells] at hm
      obtain ⟨rfl, rfl, rfl⟩ := hm
      exact cell_has h
    · rename_i cells _
      exfalso
      have h2 : Cell.ok P w r base t (.agg cells) := by
        unfold Cell.okWide at h
        cases hu : P.underlying t with
        | none => rw [hu] at h; exact h
        | some d => rw [hu] at h; cases d <;> exact h
      unfold Cell.ok at h2
      cases hu : P.underlying t with
      | none => rw [hu] at h2; exact h2
      | some d => rw [hu] at h2; cases d <;> exact h2
  split at h
  · obtain ⟨cs, h1, _, h2⟩ := h; exact row cs h1 h2
  · obtain ⟨cs, h1, _, h2⟩ := h; exact row cs h1 h2
  · exact cell h

/-- An argument out of its cells. -/
def argA (ap : AP) (t : Nat) (asx : List AV) : AV := match ap.ty t with
  | some ti => if ti.td.isAgg then .agg asx else (asx.head?).getD .undef
  | none => .undef
section
variable {Hh : Type} {enc : TypeId × Value → Hh} {P : Program} {w : World} {ap : AP}
theorem arg_opn (hg : TyAgree P ap) {m : Nat} {t : Nat} {v : Value} {d : DataW Hh} {p : List MemPlace} {r : Reach} {b0 : Nat} (hok : okT ap m t = true) (hval : Value.okWide P w r b0 t v) (hT : DataW.Trod enc P w 0 (fun _ => true) true t v d p) {φ : Inj} {H : AH} (hr : Rel φ H w.heap) (hn : NoOwn H) :
    ∃ φ' X asx, Rel φ' (H ++ X) w.heap ∧ NoOwn (H ++ X) ∧ φ.le φ' ∧ AR ap m (H ++ X) t asx ∧ VR φ' (argA ap t asx) v := by
  obtain ⟨fuel, hf⟩ := hT
  obtain ⟨φ', X, asx, r', n', l', al, av, ar⟩ := opn hg fuel t _ _ hf m hok (fun g => val_has hval g) φ H hr hn
  refine ⟨φ', X, asx, r', n', l', ar, ?_⟩
  cases m with
  | zero => cases hok
  | succ m =>
  unfold okT at hok
  cases hti : ap.ty t with
  | none => rw [hti] at hok; cases hok
  | some ti =>
    rw [hti] at hok
    simp only at hok
    obtain ⟨inf, dd, z, tok⟩ := hg.get hti
    have htd := tok.td
    have one : ∀ x, v.cells.toList = [x] → v = x → (ti.td.isAgg = false) → VR φ' (argA ap t asx) v := fun x hx hv ha => by
      rw [hx] at al av
      unfold argA
      rw [hti]
      simp only
      rw [ha]
      simp only [Bool.false_eq_true, if_false]
      match asx, al with
      | [a], _ =>
        rw [hv]
        exact av 0 a x rfl rfl
    cases htd' : ti.td with
    | bool =>
      rw [htd'] at htd
      have hd : dd = .bool := by cases dd <;> simp [tdOf] at htd <;> first | rfl | (split at htd <;> simp at htd)
      subst hd
      obtain ⟨b, rfl⟩ := okWide_bool tok.hd hval
      exact one _ rfl rfl (by rw [htd']; rfl)
    | int k =>
      rw [htd'] at htd
      have hd : dd = .int k := by cases dd <;> simp [tdOf] at htd <;> first | (subst htd; rfl) | (split at htd <;> simp at htd)
      subst hd
      obtain ⟨b, rfl⟩ := okWide_int tok.hd hval
      exact one _ rfl rfl (by rw [htd']; rfl)
    | string =>
      rw [htd'] at htd
      have hd : dd = .string := by cases dd <;> simp [tdOf] at htd <;> first | rfl | (split at htd <;> simp at htd)
      subst hd
      obtain ⟨b, rfl⟩ := okWide_string tok.hd hval
      exact one _ rfl rfl (by rw [htd']; rfl)
    | slice e =>
      rw [htd'] at htd
      have hd : dd = .slice e := by cases dd <;> simp [tdOf] at htd <;> first | (subst htd; rfl) | (split at htd <;> simp at htd)
      subst hd
      obtain ⟨a, l, c, rfl⟩ := okWide_slice tok.hd hval
      exact one _ rfl rfl (by rw [htd']; rfl)
    | struct fs =>
      rw [htd'] at htd
      have hd : ∃ fs', dd = .struct fs' := by
        cases dd <;> simp only [tdOf] at htd <;> first | (cases htd; done) | exact ⟨_, rfl⟩
      obtain ⟨fs', rfl⟩ := hd
      obtain ⟨cs, rfl, hsz⟩ := okWide_struct tok.hd hval
      unfold argA
      rw [hti]
      simp only
      rw [htd']
      simp only [TD.isAgg, if_true]
      refine .agg asx cs (by simpa [Value.cells] using al) (fun i a v h1 h2 => av i a v h1 (by simpa [Value.cells] using h2))
    | _ => rw [htd'] at hok; cases hok
theorem args_opn (hg : TyAgree P ap) {m : Nat} {r : Reach} {b0 : Nat} : ∀ (ts : List Nat) (vs : List Value) (ds : List (DataW Hh)) (p : List MemPlace), DataW.TrodAll enc P w 0 (fun _ => true) true ts vs ds p → (∀ t ∈ ts, okT ap m t = true) →
    (∀ (i : Nat) t v, ts[i]? = some t → vs[i]? = some v → Value.okWide P w r b0 t v) → ∀ (φ : Inj) (H : AH), Rel φ H w.heap → NoOwn H →
    ∃ (φ' : Inj) (X : AH) (ass : List (List AV)), Rel φ' (H ++ X) w.heap ∧ NoOwn (H ++ X) ∧ φ.le φ' ∧ ass.length = ts.length ∧ (∀ (i : Nat) t asx, ts[i]? = some t → ass[i]? = some asx → AR ap m (H ++ X) t asx) ∧ ER φ' (List.zipWith (argA ap) ts ass) vs.toArray
  | [], [], [], p, h, _, _, φ, H, hr, hn => ⟨φ, [], [], by rwa [List.append_nil], by rwa [List.append_nil], Inj.le_refl φ, rfl, fun i t asx h => by simp at h, rfl, fun i a v h => by simp at h⟩
  | [], _ :: _, _, _, h, _, _, _, _, _, _ => by cases h
  | [], [], _ :: _, _, h, _, _, _, _, _, _ => by cases h
  | _ :: _, [], _, _, h, _, _, _, _, _, _ => by cases h
  | _ :: _, _ :: _, [], _, h, _, _, _, _, _, _ => by cases h
  | t :: ts, v :: vs, d :: ds, _, ⟨p, q, h1, h2, _⟩, hok, hval, φ, H, hr, hn => by
    obtain ⟨φ1, X1, as1, r1, n1, l1, a1, v1⟩ := arg_opn hg (hok t (by simp)) (hval 0 t v rfl rfl) h1 hr hn
    obtain ⟨φ2, X2, ass, r2, n2, l2, len2, a2, e2⟩ := args_opn hg ts vs ds q h2 (fun t ht => hok t (by simp [ht])) (fun i t v h1 h2 => hval (i + 1) t v (by simpa using h1) (by simpa using h2)) φ1 (H ++ X1) r1 n1
    refine ⟨φ2, X1 ++ X2, as1 :: ass, by rw [← List.append_assoc]; exact r2, by rw [← List.append_assoc]; exact n2, Inj.le_trans l1 l2, by simp [len2], fun i t' asx h3 h4 => ?_, ?_⟩
    · rw [← List.append_assoc]
      cases i with
      | zero =>
        simp at h3 h4; subst h3; subst h4
        exact a1.keep (.app _ _)
      | succ i => exact a2 i t' asx (by simpa using h3) (by simpa using h4)
    · refine ⟨by have := e2.1; simp at this ⊢; exact this, fun i a u h3 h4 => ?_⟩
      cases i with
      | zero =>
        simp at h3 h4; subst h3; subst h4
        exact v1.mono l2
      | succ i => exact e2.2 i a u (by simpa using h3) (by simpa using h4)
/-- A law, carried out, is a law. -/
theorem law_ok (hg : Agree P ap) {k n m : Nat} {ts : List Nat} {vs : List Value} {ds : List (DataW Hh)} {p : List MemPlace} {r : Reach} {b0 : Nat} (hp : ap.prim n = none) (hT : DataW.TrodAll enc P w 0 (fun _ => true) true ts vs ds p) (hok : ts.all (okT ap m) = true)
    (hval : ∀ (i : Nat) t v, ts[i]? = some t → vs[i]? = some v → Value.okWide P w r b0 t v)
    (main : ∀ (H : AH) (ass : List (List AV)), ass.length = ts.length → (∀ (i : Nat) t asx, ts[i]? = some t → ass[i]? = some asx → AR ap m H t asx) → Hx (callA ap k (.func n [] []) (List.zipWith (argA ap) ts ass) 0 H) fun r => r.1 = .bool true) :
    Calls P n vs.toArray w fun e w' => e = .returned (.bool true) ∧ Below w.heap.size w w' := by
  obtain ⟨φ, X, ass, hr, hn, _, hl, ha, he⟩ := args_opn (ap := ap) (m := m) hg.toTyAgree ts vs ds p hT (fun t ht => List.all_eq_true.1 hok t ht) hval (fun _ => none) [] (Rel.empty w.heap) noOwn_nil
  obtain ⟨⟨v, H'⟩, e1, e2⟩ := (main _ ass hl ha).ex
  simp only at e2
  subst e2
  exact calls_true hg hp e1 hr hn he
/-- A slice of bytes. -/
theorem ar_bytes {m : Nat} {H : AH} {t e : Nat} {ti te : TI} {asx : List AV} (h : AR ap m H t asx) (ht : ap.ty t = some ti) (htd : ti.td = .slice e) (he : ap.ty e = some te) (hed : te.td = .int .u8) (hs : te.sz = 1) : ∃ v bs, asx = [v] ∧ B8 H v bs ∧ Byt bs := by
  cases m with
  | zero => cases h
  | succ m =>
    obtain ⟨ti', h1, h2⟩ := h
    rw [ht] at h1; cases h1
    rw [htd] at h2
    rcases h2 with rfl | ⟨b, len, cap, es, te', g1, g2, rfl, g4, g5, g6, g7⟩
    · exact ⟨_, [], rfl, .nil _ _, byt_nil⟩
    · rw [he] at g1; cases g1
      have hx : ∀ x ∈ es, ∃ z, x = [.int .u8 z] ∧ (Lit.int .u8 z).wf = true := fun x hx => by
        obtain ⟨_, k2⟩ := g7 x hx
        cases m with
        | zero => cases k2
        | succ m =>
          obtain ⟨te'', k3, k4⟩ := k2
          rw [he] at k3; cases k3
          rw [hed] at k4
          exact k4
      have hall : ∀ (es : List (List AV)), (∀ x ∈ es, ∃ z, x = [.int .u8 z] ∧ (Lit.int .u8 z).wf = true) → ∃ bs, es.flatten = u8s bs ∧ Byt bs ∧ bs.length = es.length := by
        intro es
        induction es with
        | nil => intro _; exact ⟨[], rfl, byt_nil, rfl⟩
        | cons x r ih =>
          intro hx
          obtain ⟨bs, q1, q2, q3⟩ := ih fun y hy => hx y (by simp [hy])
          obtain ⟨z, rfl, hz⟩ := hx x (by simp)
          refine ⟨z :: bs, by rw [List.flatten_cons, q1]; rfl, byt_cons ?_ q2, by simp [q3]⟩
          simp [Lit.wf, IntKind.has, IntKind.min, IntKind.max, IntKind.bits, IntKind.signed] at hz
          omega
      obtain ⟨bs, q1, q2, q3⟩ := hall es hx
      refine ⟨_, bs, rfl, ?_, q2⟩
      rw [hs]
      exact .at_ b 0 len (some cap) _ _ Nat.one_pos g4 (by rw [q1]; simp; omega) (by rw [List.drop_zero, q1, List.take_of_length_le (by simp; omega)]) (fun k hk => by cases hk; exact g6)
theorem argA_one {t : Nat} {ti : TI} {v : AV} (ht : ap.ty t = some ti) (h : ti.td.isAgg = false) : argA ap t [v] = v := by
  unfold argA
  rw [ht]
  simp only
  rw [h]
  rfl
theorem ar_int {m : Nat} {H : AH} {t : Nat} {ti : TI} {k : IntKind} {asx : List AV} (h : AR ap m H t asx) (ht : ap.ty t = some ti) (htd : ti.td = .int k) : ∃ z, asx = [.int k z] ∧ (Lit.int k z).wf = true := by
  cases m with
  | zero => cases h
  | succ m =>
    obtain ⟨ti', h1, h2⟩ := h
    rw [ht] at h1; cases h1
    rw [htd] at h2
    exact h2
/-- A slice, its elements' cells one by one. -/
theorem ar_slice {m : Nat} {H : AH} {t e : Nat} {ti te : TI} {al : List AV} (h : AR ap m H t al) (ht : ap.ty t = some ti) (htd : ti.td = .slice e) (he : ap.ty e = some te) :
    ∃ (v : AV) (es : List (List AV)) (m' : Nat), al = [v] ∧ SL H te.sz v es.flatten ∧ ∀ x ∈ es, x.length = te.sz ∧ AR ap m' H e x := by
  cases m with
  | zero => cases h
  | succ m =>
    obtain ⟨ti', h1, h2⟩ := h
    rw [ht] at h1; cases h1
    rw [htd] at h2
    rcases h2 with rfl | ⟨b, len, cap, es, te', g1, g2, rfl, g4, g5, g6, g7⟩
    · exact ⟨_, [], 0, rfl, .nil _ _, by simp⟩
    · rw [he] at g1; cases g1
      have hfl := flatten_len es (fun x hx => (g7 x hx).1)
      rw [g5] at hfl
      exact ⟨_, es, m, rfl, .at_ b 0 len (some cap) _ _ g2 g4 (by omega) (by rw [List.drop_zero, List.take_of_length_le (by omega)]) (fun k hk => by cases hk; exact g6), g7⟩
theorem ar_struct {m : Nat} {H : AH} {t : Nat} {ti : TI} {fs : List (Nat × Nat)} {al : List AV} (h : AR ap m H t al) (ht : ap.ty t = some ti) (htd : ti.td = .struct fs) :
    ∃ (parts : List (List AV)) (m' : Nat), al = parts.flatten ∧ parts.length = fs.length ∧ ∀ (i : Nat) f p, fs[i]? = some f → parts[i]? = some p → AR ap m' H f.2 p := by
  cases m with
  | zero => cases h
  | succ m =>
    obtain ⟨ti', h1, h2⟩ := h
    rw [ht] at h1; cases h1
    rw [htd] at h2
    obtain ⟨parts, g1, g2, g3⟩ := h2
    exact ⟨parts, m, g1, g2, fun i f p h1 h2 => (g3 i f p h1 h2).choose_spec.2.2⟩
theorem list_choose {α β : Type} {R : α → β → Prop} : ∀ (es : List α), (∀ x ∈ es, ∃ a, R x a) → ∃ l : List β, l.length = es.length ∧ ∀ (i : Nat) x a, es[i]? = some x → l[i]? = some a → R x a
  | [], _ => ⟨[], rfl, fun i x a h => by simp at h⟩
  | x :: es, h => by
    obtain ⟨l, h1, h2⟩ := list_choose es fun y hy => h y (by simp [hy])
    obtain ⟨a, ha⟩ := h x (by simp)
    refine ⟨a :: l, by simp [h1], fun i y b g1 g2 => ?_⟩
    cases i with
    | zero => simp at g1 g2; subst g1; subst g2; exact ha
    | succ i => exact h2 i y b (by simpa using g1) (by simpa using g2)
theorem flatten_cut {α : Type} {sz : Nat} : ∀ (l : List (List α)), (∀ x ∈ l, x.length = sz) → ∀ (i : Nat) x, l[i]? = some x → (l.flatten.drop (i * sz)).take sz = x
  | [], _, i, x, h => by simp at h
  | y :: l, h, i, x, hx => by
    have hy := h y (by simp)
    cases i with
    | zero =>
      simp at hx; subst hx
      rw [Nat.zero_mul, List.drop_zero, List.flatten_cons, List.take_left' hy]
    | succ i =>
      rw [List.flatten_cons, Nat.add_mul, Nat.one_mul, Nat.add_comm, ← List.drop_drop, List.drop_left' hy]
      exact flatten_cut l (fun z hz => h z (by simp [hz])) i x (by simpa using hx)
/-- Element i of a slice of structs. -/
theorem sle_get {H : AH} {sz : Nat} {v : AV} {es : List (List AV)} (h : SL H sz v es.flatten) (hs : ∀ x ∈ es, x.length = sz) (hz : 0 < sz) {i : Nat} {x : List AV} (hx : es[i]? = some x) :
    ∃ b o c l, v = .slice (some (b, o)) es.length c sz ∧ rowOf H b = some l ∧ o + i * sz + sz ≤ l.length ∧ (l.drop (o + i * sz)).take sz = x ∧ ∀ j, j < sz → l[o + i * sz + j]? = x[j]? := by
  have hi : i < es.length := (List.getElem?_eq_some_iff.1 hx).1
  have hl := flatten_len es hs
  obtain ⟨b, o, n, c, l, rfl, h1, h2, h3, h4⟩ := h.get (i := i) (by rw [hl]; exact Nat.mul_le_mul_right sz hi) hz
  obtain ⟨a', n', c', s', e, e2⟩ := h.form
  injection e with _ e _ _
  subst e
  rw [hl] at e2
  have hn := Nat.eq_of_mul_eq_mul_right hz e2
  subst hn
  rw [flatten_cut es hs i x hx] at h4
  refine ⟨b, o, c, l, rfl, h2, h3, h4, fun j hj => ?_⟩
  rw [← h4, List.getElem?_take_of_lt hj, List.getElem?_drop]
theorem sle_form {H : AH} {sz : Nat} {v : AV} {es : List (List AV)} (h : SL H sz v es.flatten) (hs : ∀ x ∈ es, x.length = sz) (hz : 0 < sz) : ∃ a c s, v = .slice a es.length c s := by
  obtain ⟨a', n', c', s', e, e2⟩ := h.form
  rw [flatten_len es hs] at e2
  exact ⟨a', c', s', by rw [e, Nat.eq_of_mul_eq_mul_right hz e2]⟩
end
end Go.Ab
end
section
/-! Rows of rows of bytes; strings. -/
set_option linter.unusedVariables false
set_option linter.unusedSimpArgs false
namespace Go.Ab
/-- A slice of slices of bytes. -/
def BL (H : AH) (v : AV) (ls : List (List Int)) : Prop := ∃ vs, SL H 1 v vs ∧ vs.length = ls.length ∧ ∀ i, i < ls.length → ∀ x, vs[i]? = some x → B8 H x (ls.getD i [])
section
variable {H H' : AH} {v : AV} {ls : List (List Int)} {ap : AP}
theorem BL.keep (h : BL H v ls) (c : Chg [] H H') : BL H' v ls := by
  obtain ⟨vs, h1, h2, h3⟩ := h
  exact ⟨vs, h1.keep c, h2, fun i hi x hx => (h3 i hi x hx).keep c⟩
theorem BL.form (h : BL H v ls) : ∃ a c s, v = .slice a ls.length c s := by
  obtain ⟨vs, h1, h2, h3⟩ := h
  obtain ⟨a, c, s, rfl⟩ := h1.form1
  exact ⟨a, c, s, by rw [h2]⟩
theorem BL.get (h : BL H v ls) {i : Nat} (hi : i < ls.length) : ∃ b o c l z, v = .slice (some (b, o)) ls.length c 1 ∧ rowOf H b = some l ∧ l[o + i]? = some z ∧ B8 H z (ls.getD i []) := by
  obtain ⟨vs, h1, h2, h3⟩ := h
  obtain ⟨b, o, c, l, rfl, r, e⟩ := h1.get1 (i := i) (by omega)
  have hz : vs[i]? = some vs[i] := List.getElem?_eq_getElem (by omega)
  exact ⟨b, o, c, l, vs[i], by rw [h2], r, by rw [e, hz], h3 i hi _ hz⟩
theorem ar_bl {m : Nat} {t e u : Nat} {ti te tu : TI} {al : List AV} (h : AR ap m H t al) (ht : ap.ty t = some ti) (htd : ti.td = .slice e) (he : ap.ty e = some te) (hed : te.td = .slice u) (hes : te.sz = 1) (hu : ap.ty u = some tu) (hud : tu.td = .int .u8) (hus : tu.sz = 1) :
    ∃ v ls, al = [v] ∧ BL H v ls ∧ ∀ b ∈ ls, Byt b := by
  obtain ⟨v, es, m', rfl, h1, h2⟩ := ar_slice h ht htd he
  rw [hes] at h1
  obtain ⟨l, g1, g2⟩ := list_choose (R := fun x (b : List Int) => ∃ y, x = [y] ∧ B8 H y b ∧ Byt b) es fun x hx => by
    obtain ⟨y, b, e1, e2, e3⟩ := ar_bytes (h2 x hx).2 he hed hu hud hus
    exact ⟨b, y, e1, e2, e3⟩
  have hfl : es.flatten.length = es.length := by
    have := flatten_len es (fun x hx => (h2 x hx).1)
    rw [hes] at this
    omega
  refine ⟨v, l, rfl, ⟨es.flatten, h1, by omega, fun i hi x hx => ?_⟩, fun b hb => ?_⟩
  · have hes' : es[i]? = some es[i] := List.getElem?_eq_getElem (by omega)
    have hli : l[i]? = some l[i] := List.getElem?_eq_getElem hi
    obtain ⟨y, e1, e2, _⟩ := g2 i _ _ hes' hli
    have hg := flatten_get (sz := 1) Nat.one_pos es (fun x hx => by rw [(h2 x hx).1, hes]) i 0 (by omega)
    rw [Nat.mul_one, Nat.add_zero, hes'] at hg
    simp [e1] at hg
    have hg2 : es.flatten[i]? = some y := by rw [← hg]
    rw [hx] at hg2
    cases hg2
    simpa [List.getD_eq_getElem?_getD, hi] using e2
  · obtain ⟨i, hi⟩ := List.getElem?_of_mem hb
    have hil : i < l.length := (List.getElem?_eq_some_iff.1 hi).1
    obtain ⟨y, _, _, e3⟩ := g2 i _ _ (List.getElem?_eq_getElem (by omega : i < es.length)) hi
    exact e3
end
theorem strN_cat (a b : List Int) : strN a ++ strN b = strN (a ++ b) := by
  apply Go.WideShapes.bytes_inj
  simp [strN_data]
end Go.Ab
end
section
/-! Loops over functions: what stays, one rule for both ways; rows of a slice at once. -/
set_option linter.unusedVariables false
set_option linter.unusedSimpArgs false
namespace Go.Ab
section
variable {l : Nat} {H H' : AH}
theorem get_ls {b : Nat} {cs : List AV} {m : Md} (h : H[b]? = some (.cells cs m)) (g : Chg [] H H' ∨ LS l H H') : H'[b]? = some (.cells cs m) := by
  rcases g with g | g
  · exact g.get h (by simp)
  · exact g.get h
theorem chg_ls {F : List Nat} {H0 : AH} (h : Chg F H0 H) (hl : H0.length ≤ l) (g : Chg [] H H' ∨ LS l H H') : Chg F H0 H' := by
  rcases g with g | g
  · exact h.tr g
  · exact g.chg h hl
theorem sl_ls {sz : Nat} {v : AV} {cs : List AV} (h : SL H sz v cs) (g : Chg [] H H' ∨ LS l H H') : SL H' sz v cs := by
  rcases g with g | g
  · exact h.keep g
  · exact g.sl h
theorem mine_ls {sz : Nat} {v : AV} {cs : List AV} (h : Mine H sz v cs) (g : Chg [] H H' ∨ LS l H H') : Mine H' sz v cs := by
  rcases g with g | g
  · exact h.keep g
  · exact g.mine h
theorem loop_lt (h : isLoop H[l]?) : l < H.length := by
  rcases Nat.lt_or_ge l H.length with h' | h'
  · exact h'
  · rw [List.getElem?_eq_none h'] at h; exact h.elim
end
theorem set_row {H : AH} {p b : Nat} {r : List AV} (h : rowOf H b = some r) (hn : p ≠ b) (X : AB) : rowOf (H.set p X) b = some r :=
  (Chg.set H p X).row h (by simp; omega)
theorem Chg.set_new {H0 H : AH} {F : List Nat} (c : Chg F H0 H) {p : Nat} (hp : H0.length ≤ p) (X : AB) : Chg F H0 (H.set p X) := c.trans (.set _ _ _) (by simp; omega)
/-- A slice of single cells, its row at once. -/
theorem SL.all1 {H : AH} {v : AV} {cs : List AV} (h : SL H 1 v cs) (h0 : cs ≠ []) : ∃ b o c r, v = .slice (some (b, o)) cs.length c 1 ∧ rowOf H b = some r ∧ o + cs.length ≤ r.length ∧ ∀ i, i < cs.length → r[o + i]? = cs[i]? := by
  cases h with
  | nil c s => exact absurd rfl h0
  | at_ b o n c l cs hz h1 h2 h3 h4 =>
    have hn : n = cs.length := by rw [← h3]; simp; omega
    subst hn
    refine ⟨b, o, c, l, rfl, h1, by omega, fun i hi => ?_⟩
    rw [← h3, List.getElem?_take_of_lt (by omega), List.getElem?_drop]
end Go.Ab
end
section
/-! Functions behind which nothing stays but what they tell. -/
set_option linter.unusedVariables false
set_option linter.unusedSimpArgs false
namespace Go.Ab
@[simp] theorem refsV_bool {b : Bool} : refsV (.bool b) = [] := by unfold refsV; rfl
@[simp] theorem refsV_int {k : IntKind} {n : Int} : refsV (.int k n) = [] := by unfold refsV; rfl
@[simp] theorem refsV_str {s : ByteArray} : refsV (.str s) = [] := by unfold refsV; rfl
@[simp] theorem refsV_ptrN : refsV (.ptr none) = [] := by unfold refsV; rfl
@[simp] theorem refsV_sliceN {n : Nat} {c : Option Nat} {s : Nat} : refsV (.slice none n c s) = [] := by unfold refsV; rfl
@[simp] theorem refsV_slice {p : Nat × Nat} {n : Nat} {c : Option Nat} {s : Nat} : refsV (.slice (some p) n c s) = [p.1] := by unfold refsV; rfl
@[simp] theorem refsV_agg {l : List AV} : refsV (.agg l) = refsL l := by conv => lhs; unfold refsV
@[simp] theorem refsV_tuple {l : List AV} : refsV (.tuple l) = refsL l := by conv => lhs; unfold refsV
@[simp] theorem refsL_nil : refsL [] = [] := by unfold refsL; rfl
@[simp] theorem refsL_cons {a : AV} {l : List AV} : refsL (a :: l) = refsV a ++ refsL l := by conv => lhs; unfold refsL
def retG (ap : AP) (rs : List ResultVar) (H : AH) (Q : AV × AH → Prop) (r : Ex × St) : Prop :=
  match r.1 with | .exit _ => False | _ => Hx (takeA r.2.marks r.2.H) fun H' => Hx (resA ap r.2.env H' rs) fun l => Q (gcF H (resV l, H'))
section
variable {ap : AP} {rs : List ResultVar} {H H2 X : AH} {Q : AV × AH → Prop} {s : St} {v : AV}
@[simp] theorem retG_normal : retG ap rs H Q (.normal, s) = Hx (takeA s.marks s.H) fun H' => Hx (resA ap s.env H' rs) fun l => Q (gcF H (resV l, H')) := propext ⟨fun h => h, fun h => h⟩
@[simp] theorem retG_ret : retG ap rs H Q (.ret, s) = Hx (takeA s.marks s.H) fun H' => Hx (resA ap s.env H' rs) fun l => Q (gcF H (resV l, H')) := propext ⟨fun h => h, fun h => h⟩
@[congr] theorem retG_congr {r r' : Ex × St} (h : tag r = r') : retG ap rs H Q r = retG ap rs H Q r' := by cases h; rfl
theorem hx_gg {k n lo nt : Nat} {body : AC} (hf : ap.fn n = some ⟨nt, rs, body⟩) (hp : ap.prim n = none) (hgc : ap.gc n = true := by rfl) {first caps args : List AV} :
    Hx (callA ap (k + 1) (.func n first caps) args lo H) Q = Hx (evCode ap (callA ap k) lo none k body ⟨(first ++ args ++ caps) ++ List.replicate (nt - (first ++ args ++ caps).length) .undef, H, []⟩) (retG ap rs H Q) := by
  simp only [callA, hp, fnA, hf, Option.bind_some, tag_eq, gcR, hgc, if_true]
  rw [Hx_bind]
  congr 1
  funext r
  obtain ⟨x, s⟩ := r
  cases x with
  | exit i => simp [retG]
  | _ => exact Hx_bind.trans (congrArg (Hx _) (funext fun a => Hx_map))
theorem Chg.take (c : Chg [] H H2) : H2.take H.length = H := by
  refine List.ext_getElem? fun i => ?_
  by_cases hi : i < H.length
  · rw [List.getElem?_take_of_lt hi, c.2 i hi (by simp)]
  · rw [List.getElem?_eq_none (by simp; omega), List.getElem?_eq_none (by omega)]
theorem gcF_old (hr : ∀ r ∈ refsV v, r < H.length) (c : Chg [] H H2) : gcF H (v, H2) = (v, H) := by
  unfold gcF
  rw [if_pos ⟨c.1, hr, fun b hb => .inl (c.2 b hb (by simp))⟩, c.take]
theorem gcF_flat (hr : refsV v = []) (c : Chg [] H H2) : gcF H (v, H2) = (v, H) := gcF_old (by simp [hr]) c
@[simp] theorem gcF_app (hr : refsV v = []) : gcF H (v, H ++ X) = (v, H) := gcF_flat hr (.app _ _)
@[simp] theorem gcF_self (hr : refsV v = []) : gcF H (v, H) = (v, H) := gcF_flat hr .refl
/-- A slice, its row at once. -/
theorem sle_all {sz : Nat} {es : List (List AV)} (h : SL H sz v es.flatten) (hs : ∀ x ∈ es, x.length = sz) (hz : 0 < sz) (h0 : es ≠ []) : ∃ b o c r, v = .slice (some (b, o)) es.length c sz ∧ rowOf H b = some r ∧
    ∀ i x, es[i]? = some x → o + i * sz + sz ≤ r.length ∧ (r.drop (o + i * sz)).take sz = x ∧ ∀ j, j < sz → r[o + i * sz + j]? = x[j]? := by
  have hn : 0 < es.length := List.length_pos_iff.2 h0
  obtain ⟨b, o, c, r, rfl, g1, -⟩ := sle_get h hs hz (i := 0) (x := es[0]) (List.getElem?_eq_getElem hn)
  refine ⟨b, o, c, r, rfl, g1, fun i x hx => ?_⟩
  obtain ⟨b', o', c', r', e, k1, k2, k3, k4⟩ := sle_get h hs hz hx
  cases e
  rw [g1] at k1
  cases k1
  exact ⟨k2, k3, k4⟩
/-- What a call brings, as an equation. -/
theorem Hx.eqn {α : Type} {o : Option α} {x : α} (h : Hx o fun r => r = x) : o = some x := Hx_eq.1 h
end
end Go.Ab
end
section
/-! slices.Insert: what its text tells at a known capacity holds of an unknown one. -/
set_option linter.unusedVariables false
set_option linter.unusedSimpArgs false
namespace Go.Ab
/-- slices.overlaps of a list of arguments and a row. -/
def overlapsX : List AV → AH → Option (AV × AH)
  | [.slice (some (b, o)) n c s, .slice (some (b', o')) n' c' s'], H => match H[b]?, H[b']? with
    | some (.cells (y :: l) .pl), some (.cells (x :: r) .rw) => if b ≠ b' ∧ n ≠ 0 ∧ n' ≠ 0 then some (.bool false, H) else none
    | _, _ => none
  | _, _ => none
theorem overlaps_ok {P : Program} {f : FuncId} {fn : Func} {tS tR e : TypeId} {size : Nat} (hf : P.funcs[f]? = some fn) (hname : (fn.name == "runtime.NumGoroutine") = false) (hb : fn.body.isNone = true) (hn : Extern.findNext fn = none)
    (hx : Extern.find fn = some (Extern.SlicesOverlaps.overlaps #[tS, tS] #[tR])) (ht : P.underlying tS = some (.slice e)) (hz : ∀ w, (Go.sizeOf e).run P w = .ok size w) : ExtOk P f overlapsX := by
  intro φ H w args args' v H' h hr he
  unfold overlapsX at h
  split at h
  · rename_i b o n c s b' o' n' c' s' 
    split at h
    · rename_i y l x r e1 e2
      split at h
      · rename_i hc
        obtain ⟨hne, hn0, hn0'⟩ := hc
        cases h
        have hsz : args'.size = 2 := by have := he.1; simpa using this.symm
        obtain ⟨u0, h0⟩ : ∃ u, args'[0]? = some u := ⟨args'[0], by simp [hsz]⟩
        obtain ⟨u1, h1⟩ : ∃ u, args'[1]? = some u := ⟨args'[1], by simp [hsz]⟩
        have hargs : args' = #[u0, u1] := by
          apply Array.ext_getElem?
          intro i
          match i with
          | 0 => simpa using h0
          | 1 => simpa using h1
          | i + 2 => simp; omega
        have v0 := he.2 0 _ u0 rfl h0
        have v1 := he.2 1 _ u1 rfl h1
        cases v0 with
        | slice _ _ _ _ _ p a' cap' hp ha hl hR hcc =>
          cases v1 with
          | slice _ _ _ _ _ p' b'' cap'' hp' ha' hl' hR' hcc' =>
            have ea := ha.resolve_right (fun e => hn0 (Nat.le_zero.1 (e ▸ hl)))
            have ea' := ha'.resolve_right (fun e => hn0' (Nat.le_zero.1 (e ▸ hl')))
            subst ea ea'
            obtain ⟨A, O, k1, k2, k3⟩ := hr.blk b p hp
            rw [e1] at k1
            cases k1
            obtain ⟨A', O', k1', k2', k3'⟩ := hr.blk b' p' hp'
            rw [e2] at k1'
            cases k1'
            have hblk : p.blk ≠ p'.blk := fun hh => absurd (hr.excl b' p' _ b p _ hp' e2 rfl hp e1 hne hh) id
            cases k3 with
            | cells _ _ cs et fr g1 g2 g3 g4 g5 =>
              cases k3' with
              | cells _ _ cs' et' fr' g1' g2' g3' g4' g5' =>
                have hfr := fun (x : Nat) (hx : x < cs.size + 1 + p.d + o) => frozen_of (w := w) (B := p.blk) (o := x) k2 (.inl (g5 rfl)) hx
                refine ⟨.bool false, w, φ, ?_, .refl hr, .bool false⟩
                rw [hargs, run_callFunc_extern hf hname hb hn hx, Lib.run_overlaps_apart w tS tR e ht size hz ⟨p.blk, p.d + o, none⟩ ⟨p'.blk, p'.d + o', none⟩ n cap' n' cap'' hblk et et' cs.size cs'.size (by simp [World.shape?, k2]) (by simp [World.shape?, k2'])
                  (by simp at g2'; omega) (hfr (p.d + o) (by omega)) (hfr cs.size (by omega))]
                rfl
      · cases h
    · cases h
  · cases h
/-! a row whose capacity is known: what is not known of it is left open -/
theorem Rel.grow {φ : Inj} {H : AH} {hp : Array Obj} (h : Rel φ H hp) {b m : Nat} {p : PL} {l : List AV} (e1 : φ b = some p) (e2 : H[b]? = some (.cells l .rw)) (hm : l.length ≤ m) (hR : p.d + m ≤ p.R) :
    Rel φ (H.set b (.cells (l ++ List.replicate (m - l.length) .undef) .rw)) hp := by
  have hlt := h.lt e1
  have old : ∀ x A, x ≠ b → (H.set b (.cells (l ++ List.replicate (m - l.length) .undef) .rw))[x]? = some A → H[x]? = some A := fun x A hn e => by rwa [List.getElem?_set_ne (by omega)] at e
  refine ⟨fun x q e => ?_, fun b1 p1 A1 b2 p2 A2 f1 f2 f3 f4 f5 f6 f7 => ?_⟩
  · obtain ⟨A, O, h1, h2, h3⟩ := h.blk x q e
    by_cases hx : x = b
    · subst hx
      rw [e1] at e; cases e
      rw [e2] at h1; cases h1
      refine ⟨_, O, List.getElem?_set_self hlt, h2, ?_⟩
      cases h3 with
      | cells _ _ c et fr g1 g2 g3 g4 g5 =>
        refine .cells _ _ c et fr g1 (by simp; omega) (fun i a hi => ?_) g4 g5
        by_cases hil : i < l.length
        · rw [List.getElem?_append_left hil] at hi
          exact g3 i a hi
        · rw [List.getElem?_append_right (by omega)] at hi
          have h' := (List.getElem?_eq_some_iff.1 hi)
          obtain ⟨hlt', ha⟩ := h'
          simp at hlt' ha
          subst ha
          have hic : p.d + i < c.size := by omega
          exact ⟨c[p.d + i], by simp [hic], .undef _⟩
    · exact ⟨A, O, by rw [List.getElem?_set_ne (by omega)]; exact h1, h2, h3⟩
  · by_cases hb1 : b1 = b
    · subst hb1
      by_cases hb2 : b2 = b1
      · exact absurd hb2 f6
      · exact h.excl b1 p1 _ b2 p2 A2 f1 e2 rfl f4 (old b2 A2 hb2 f5) f6 f7
    · by_cases hb2 : b2 = b
      · subst hb2
        have := h.excl b1 p1 A1 b2 p2 _ f1 (old b1 A1 hb1 f2) f3 f4 e2 f6 f7
        exact absurd this (by cases l <;> exact id)
      · exact h.excl b1 p1 A1 b2 p2 A2 f1 (old b1 A1 hb1 f2) f3 f4 (old b2 A2 hb2 f5) f6 f7
/-- A row that lives on under a new name; the old one is dead. -/
theorem renew {φ φ2 : Inj} {H Hp H2 : AH} {hp hp2 : Array Obj} (hr : Rel φ H hp) {b b2 : Nat} {p : PL} {l lp new ex : List AV} (e1 : φ b = some p) (e2 : H[b]? = some (.cells l .rw)) (hHp : Hp = H.set b (.cells lp .rw))
    (s : Sim φ Hp hp φ2 H2 hp2) (g2 : H2[b2]? = some (.cells (new ++ ex) .rw)) (keep : ∀ x, x < H.length → x ≠ b → H2[x]? = H[x]?) (hb2 : b2 = b ∨ H.length ≤ b2) {lb : List AV} {mb : Md} (gb : H2[b]? = some (.cells lb mb)) (hnew : ∀ r ∈ refsL new, r < H.length) {p2 : PL} (f2 : φ2 b2 = some p2) :
    ∃ φ3, Sim φ H hp φ3 (H.set b (.cells [] .dead) ++ [.cells new .rw]) hp2 ∧ φ3 H.length = some p2 := by
  have hlt := hr.lt e1
  have hlp : Hp.length = H.length := by rw [hHp]; simp
  obtain ⟨φ3, e3⟩ : ∃ φ3 : Inj, φ3 = fun x => if x < H.length then φ2 x else if x = H.length then some p2 else none := ⟨_, rfl⟩
  have hc : ∀ x, x < H.length → φ3 x = φ2 x := fun x hx => by rw [e3]; simp [hx]
  have hN : φ3 H.length = some p2 := by rw [e3]; simp
  have hd : ∀ x q, φ3 x = some q → (x < H.length ∧ φ2 x = some q ∧ φ x = some q) ∨ (x = H.length ∧ q = p2) := fun x q e => by
    rw [e3] at e
    simp only at e
    split at e
    · rename_i hx
      refine .inl ⟨hx, e, ?_⟩
      rcases s.new x q e with h | h
      · exact h
      · omega
    · split at e
      · rename_i hx; cases e; exact .inr ⟨hx, rfl⟩
      · cases e
  obtain ⟨H3, eH3⟩ : ∃ H3, H3 = H.set b (.cells [] .dead) ++ [.cells new .rw] := ⟨_, rfl⟩
  have r1 : ∀ x, x < H.length → x ≠ b → H3[x]? = H[x]? := fun x hx hn => by
    rw [eH3, List.getElem?_append_left (by simpa using hx), List.getElem?_set_ne (by omega)]
  have r2 : H3[b]? = some (.cells [] .dead) := by rw [eH3, List.getElem?_append_left (by simpa using hlt), List.getElem?_set_self hlt]
  have r3 : H3[H.length]? = some (.cells new .rw) := by rw [eH3, List.getElem?_append_right (by simp)]; simp
  have own1 : ∀ {x : Nat} {q : PL} {A : AB}, φ x = some q → Hp[x]? = some A → A.own = true → ∃ A0, H[x]? = some A0 ∧ A0.own = true := fun {x q A} hx hA ho => by
    by_cases hxb : x = b
    · subst hxb; exact ⟨_, e2, rfl⟩
    · rw [hHp, List.getElem?_set_ne (by omega)] at hA; exact ⟨A, hA, ho⟩
  have own2 : ∀ {x : Nat} {A : AB}, H[x]? = some A → A.own = true → ∃ A0, Hp[x]? = some A0 ∧ A0.own = true := fun {x A} hA ho => by
    by_cases hxb : x = b
    · subst hxb; exact ⟨_, by rw [hHp]; exact List.getElem?_set_self hlt, rfl⟩
    · exact ⟨A, by rw [hHp, List.getElem?_set_ne (by omega)]; exact hA, ho⟩
  rw [← eH3]
  obtain ⟨A2, O2, k1, k2, k3⟩ := s.rel.blk b2 p2 f2
  rw [g2] at k1; cases k1
  have nodead : ∀ x q A, x < H.length → x ≠ b → φ2 x = some q → H2[x]? = some A → q.blk = p2.blk → x ≠ b2 → isDead0 A := fun x q A hx hn f1 hA hq hxb => s.rel.excl b2 p2 _ x q A f2 g2 rfl f1 hA hxb hq
  refine ⟨φ3, ⟨fun x q e => by rw [hc x (hr.lt e)]; exact s.ext x q e, fun x q e => ?_, ⟨fun x q e => ?_, fun x q A y q' A' f1 g1 o1 f3 g3 hxy hq => ?_⟩, by rw [eH3]; simp, s.size, fun r hr' hn => ?_, fun x q A f1 g1 o1 => ?_, fun x q e => ?_⟩, hN⟩
  · rcases hd x q e with ⟨_, _, h⟩ | ⟨rfl, _⟩
    · exact .inl h
    · exact .inr (Nat.le_refl _)
  · rcases hd x q e with ⟨hx, h1, h2⟩ | ⟨rfl, rfl⟩
    · obtain ⟨A, O, j1, j2, j3⟩ := s.rel.blk x q h1
      by_cases hxb : x = b
      · subst hxb
        rw [e1] at h2; cases h2
        refine ⟨_, O, r2, j2, ?_⟩
        obtain ⟨A0, O0, i1, i2, i3⟩ := hr.blk x p e1
        rw [e2] at i1; cases i1
        rw [gb] at j1; cases j1
        cases j3 with
        | cells l' md c et fr q1 q2 q3 q4 q5 => exact .cells [] .dead c et fr q1 (by simp; omega) (fun i a hi => by simp at hi) (fun h => by cases h) (fun h => by cases h)
      · rw [keep x hx hxb] at j1
        obtain ⟨A0, O0, i1, i2, i3⟩ := hr.blk x q h2
        rw [j1] at i1; cases i1
        exact ⟨A, O, by rw [r1 x hx hxb]; exact j1, j2, BR.old (fun b p e => hr.lt e) hc i3 j3⟩
    · refine ⟨_, O2, r3, k2, ?_⟩
      cases k3 with
      | cells _ _ c et fr q1 q2 q3 q4 q5 =>
        refine .cells _ _ c et fr q1 (by simp at q2; omega) (fun i a hi => ?_) q4 q5
        obtain ⟨v, w1, w2⟩ := q3 i a (by rw [List.getElem?_append_left (List.getElem?_eq_some_iff.1 hi).1]; exact hi)
        exact ⟨v, w1, w2.cut hc (refs_get (P := (· < H.length)) hnew hi)⟩
  · rcases hd x q f1 with ⟨hx, h1, h2⟩ | ⟨rfl, rfl⟩
    · rcases hd y q' f3 with ⟨hy, h1', h2'⟩ | ⟨rfl, rfl⟩
      · by_cases hxb : x = b
        · subst hxb; rw [r2] at g1; cases g1; cases o1
        · by_cases hyb : y = b
          · subst hyb; rw [r2] at g3; cases g3; trivial
          · rw [r1 x hx hxb] at g1
            rw [r1 y hy hyb] at g3
            exact hr.excl x q A y q' A' h2 g1 o1 h2' g3 hxy hq
      · by_cases hxb : x = b
        · subst hxb; rw [r2] at g1; cases g1; cases o1
        · rw [r1 x hx hxb, ← keep x hx hxb] at g1
          by_cases hx2 : x = b2
          · rcases hb2 with h | h <;> omega
          · have := nodead x q A hx hxb h1 g1 hq.symm hx2
            exfalso
            cases A with
            | cells l md => cases l <;> cases md <;> simp_all [isDead0, AB.own]
            | loop => exact this
            | deferred => exact this
    · rcases hd y q' f3 with ⟨hy, h1', h2'⟩ | ⟨rfl, rfl⟩
      · by_cases hyb : y = b
        · subst hyb; rw [r2] at g3; cases g3; trivial
        · rw [r1 y hy hyb, ← keep y hy hyb] at g3
          by_cases hy2 : y = b2
          · rcases hb2 with h | h <;> omega
          · exact nodead y q' A' hy hyb h1' g3 hq hy2
      · exact absurd rfl hxy
  · refine s.frame r hr' fun x q A i1 i2 i3 => ?_
    obtain ⟨A0, j1, j2⟩ := own1 i1 i2 i3
    exact hn x q A0 i1 j1 j2
  · have fin : ∀ {b0 : Nat} {p0 : PL} {A0 : AB}, φ b0 = some p0 → Hp[b0]? = some A0 → A0.own = true → p0.blk = q.blk → hp.size ≤ q.blk ∨ ∃ b0 p0 A0, φ b0 = some p0 ∧ H[b0]? = some A0 ∧ A0.own = true ∧ p0.blk = q.blk := fun {b0 p0 A0} i1 i2 i3 i4 => by
      obtain ⟨A1, j1, j2⟩ := own1 i1 i2 i3
      exact .inr ⟨b0, p0, A1, i1, j1, j2, i4⟩
    rcases hd x q f1 with ⟨hx, h1, h2⟩ | ⟨rfl, rfl⟩
    · by_cases hxb : x = b
      · subst hxb; rw [r2] at g1; cases g1; cases o1
      · rw [r1 x hx hxb, ← keep x hx hxb] at g1
        rcases s.img x q A h1 g1 o1 with h | ⟨b0, p0, A0, i1, i2, i3, i4⟩
        · exact .inl h
        · exact fin i1 i2 i3 i4
    · rcases s.img b2 q _ f2 g2 rfl with h | ⟨b0, p0, A0, i1, i2, i3, i4⟩
      · exact .inl h
      · exact fin i1 i2 i3 i4
  · rcases hd x q e with ⟨hx, h1, h2⟩ | ⟨rfl, rfl⟩
    · exact .inl h2
    · rcases s.img b2 q _ f2 g2 rfl with h | ⟨b0, p0, A0, i1, i2, i3, i4⟩
      · exact .inr (.inl h)
      · obtain ⟨A1, j1, j2⟩ := own1 i1 i2 i3
        exact .inr (.inr ⟨b0, p0, A1, i1, j1, j2, i4⟩)
/-- What stands in a row behind an element that was put in. -/
def newR (sz n i : Nat) (l lv : List AV) : List AV := l.take (i * sz) ++ lv ++ (l.take (n * sz)).drop (i * sz)
theorem newR_eq {sz n i : Nat} {l lv : List AV} : newR sz n i l lv = l.take (i * sz) ++ (lv ++ (l.drop (i * sz)).take (n * sz - i * sz)) := by
  rw [newR, List.append_assoc, List.drop_take]
/-- slices.Insert of one element, of any capacity. -/
def insX (sz : Nat) : List AV → Nat → AH → Option (AV × AH)
  | [s, .int .i64 i, .slice (some (bv, 0)) 1 (some 1) szv], _, H => match H[bv]? with
    | some (.cells lv .pl) => if (lv.length = sz ∧ lv.all AV.one = true ∧ szv = sz) ∧ refsL lv = [] then
        match s with
        | .slice none n _ _ => if n = 0 ∧ i = 0 then some (.slice (some (H.length, 0)) 1 none sz, H ++ [.cells lv .rw]) else none
        | .slice (some (b, o)) n (some c) s => match rowOf H b with
          | some l => if (n = 0 ∧ i = 0 ∧ c = 0 ∧ s = sz) ∧ o ≤ l.length then some (.slice (some (H.length, 0)) 1 none sz, H ++ [.cells lv .rw]) else none
          | none => none
        | .slice (some (b, 0)) n none s => match H[b]? with
          | some (.cells l .rw) => if (s = sz ∧ 0 ≤ i ∧ i.toNat ≤ n ∧ n * sz ≤ l.length) ∧ (l.take (n * sz)).all AV.one = true ∧ refsL l = [] ∧ n ≤ 1000000 ∧ bv ≠ b then
              some (.slice (some (H.length, 0)) (n + 1) none sz, H.set b (.cells [] .dead) ++ [.cells (newR sz n i.toNat l lv) .rw]) else none
          | _ => none
        | _ => none
      else none
    | _ => none
  | _, _, _ => none
/-- What the call brings, at a known capacity. -/
def InsPost (sz : Nat) (H : AH) (b n c i : Nat) (l lv : List AV) (r : AV × AH) : Prop := ∃ b2 c2 ex lb mb, r.1 = .slice (some (b2, 0)) (n + 1) c2 sz ∧ r.2[b2]? = some (.cells (newR sz n i l lv ++ ex) .rw) ∧
  (∀ x, x < H.length → x ≠ b → r.2[x]? = H[x]?) ∧ ((b2 = b ∧ c2 = some c) ∨ (H.length ≤ b2 ∧ c2 = none)) ∧ r.2[b]? = some (.cells lb mb)
theorem refsL_sub {l m : List AV} (h : ∀ x ∈ m, x ∈ l) (hl : refsL l = []) : refsL m = [] := by
  refine List.eq_nil_iff_forall_not_mem.2 fun r hr => ?_
  obtain ⟨a, ha, h2⟩ := refsL_mem.1 hr
  have := refsL_mem.2 ⟨a, h a ha, h2⟩
  rw [hl] at this
  cases this
theorem refsL_app {l m : List AV} : refsL (l ++ m) = refsL l ++ refsL m := by
  induction l with
  | nil => simp
  | cons a l ih => simp [ih]
theorem newR_refs {sz n i : Nat} {l lv : List AV} (hl : refsL l = []) (hv : refsL lv = []) : refsL (newR sz n i l lv) = [] := by
  rw [newR, refsL_app, refsL_app, hv, refsL_sub (fun x hx => List.mem_of_mem_take hx) hl, refsL_sub (fun x hx => List.mem_of_mem_take (List.mem_of_mem_drop hx)) hl]
  rfl
theorem insX_ok {P : Program} {ap : AP} {f sz K : Nat} (hg : Agree P ap) (hp : ap.prim f = none) (hz : 0 < sz)
    (run0 : ∀ (H : AH) (s : AV) (bv : Nat) (lv : List AV), H[bv]? = some (.cells lv .pl) → lv.length = sz → lv.all AV.one = true → (∃ c s', s = .slice none 0 c s') ∨ (∃ b o l, s = .slice (some (b, o)) 0 (some 0) sz ∧ rowOf H b = some l ∧ o ≤ l.length) →
      callA ap (K + 1) (.func f [] []) [s, .int .i64 0, .slice (some (bv, 0)) 1 (some 1) sz] 0 H = some (.slice (some (H.length, 0)) 1 none sz, H ++ [.cells lv .rw]))
    (run : ∀ (H : AH) (b n c i bv : Nat) (l lv : List AV), H[b]? = some (.cells l .rw) → H[bv]? = some (.cells lv .pl) → bv ≠ b → l.length = c * sz → n ≤ c → i ≤ n → lv.length = sz → lv.all AV.one = true → (l.take (n * sz)).all AV.one = true → n ≤ 1000000 →
      Hx (callA ap (K + 1) (.func f [] []) [.slice (some (b, 0)) n (some c) sz, .int .i64 i, .slice (some (bv, 0)) 1 (some 1) sz] 0 H) (InsPost sz H b n c i l lv)) : PrimOk P f (insX sz) := by
  intro φ H w args args' lo v H' h hr he
  have plain : ∀ (a : List AV) (r : AV × AH), callA ap (K + 1) (.func f [] []) a 0 H = some r → ER φ a args' → (callFunc f args').run P w = .ok (.enter f args') w ∧ Calls P f args' w (Post φ H w r.1 r.2) := fun a r e hea => by
    obtain ⟨r1, r2⟩ := r
    simp only [callA, hp, List.nil_append, List.append_nil] at e
    obtain ⟨g1, g2⟩ := sound_fn hg (sound_call hg K) e hr hea
    exact ⟨g1, callsIn_wide.1 (g2 0)⟩
  unfold insX at h
  split at h
  · rename_i s i bv szv
    split at h
    · rename_i lv hv
      split at h
      · rename_i hlv
        obtain ⟨⟨hl1, hl2, rfl⟩, hl3⟩ := hlv
        split at h
        · rename_i n c0 s0
          split at h
          · rename_i h0
            obtain ⟨rfl, rfl⟩ := h0
            cases h
            exact plain _ _ (run0 H _ bv lv hv hl1 hl2 (.inl ⟨_, _, rfl⟩)) he
          · cases h
        · rename_i b o n c s0
          split at h
          · rename_i l hl
            split at h
            · rename_i h0
              obtain ⟨⟨rfl, rfl, rfl, rfl⟩, ho⟩ := h0
              cases h
              exact plain _ _ (run0 H _ bv lv hv hl1 hl2 (.inr ⟨b, o, l, rfl, hl, ho⟩)) he
            · cases h
          · cases h
        · rename_i b n s0
          split at h
          · rename_i l hb
            split at h
            · rename_i h0
              obtain ⟨⟨rfl, hi0, hin, hnl⟩, hone, hrf, hn2, hbv⟩ := h0
              cases h
              obtain ⟨j, rfl⟩ : ∃ j : Nat, i = j := ⟨i.toNat, by omega⟩
              rw [Int.toNat_natCast] at *
              have hsz : args'.size = 3 := by have := he.1; simpa using this.symm
              obtain ⟨u0, h0⟩ : ∃ u, args'[0]? = some u := ⟨args'[0], by simp [hsz]⟩
              have v0 := he.2 0 _ u0 rfl h0
              cases v0 with
              | slice _ _ _ _ _ p a' cap' hpb ha hcl hR hcc =>
                have hcap : p.d + 0 + cap' * s0 = p.R := by
                  rcases hcc with ⟨c, hc, _⟩ | ⟨_, hc⟩
                  · cases hc
                  · exact hc
                obtain ⟨cs, et, fr, k1, k2, k3, k4, k5⟩ := hr.row hpb hb
                obtain ⟨lp, hlp⟩ : ∃ lp, lp = l ++ List.replicate (cap' * s0 - l.length) AV.undef := ⟨_, rfl⟩
                have hlpl : lp.length = cap' * s0 := by rw [hlp]; simp; omega
                obtain ⟨Hp, hHp⟩ : ∃ Hp, Hp = H.set b (.cells lp .rw) := ⟨_, rfl⟩
                have hrp : Rel φ Hp w.heap := by
                  rw [hHp, hlp]
                  exact hr.grow hpb hb (by omega) (by omega)
                have hltb := (List.getElem?_eq_some_iff.1 hb).1
                have hbp : Hp[b]? = some (.cells lp .rw) := by rw [hHp]; exact List.getElem?_set_self hltb
                have hvp : Hp[bv]? = some (.cells lv .pl) := by rw [hHp, List.getElem?_set_ne (by omega)]; exact hv
                have htk : lp.take (n * s0) = l.take (n * s0) := by rw [hlp, List.take_append_of_le_length hnl]
                have hnew : newR s0 n j lp lv = newR s0 n j l lv := by
                  have : j * s0 ≤ n * s0 := Nat.mul_le_mul_right _ hin
                  rw [newR, newR, htk, hlp, List.take_append_of_le_length (by omega)]
                have hep : ER φ [.slice (some (b, 0)) n (some cap') s0, .int .i64 j, .slice (some (bv, 0)) 1 (some 1) s0] args' := by
                  refine ⟨he.1, fun q x u e1 e2 => ?_⟩
                  cases q with
                  | zero =>
                    simp at e1
                    subst e1
                    rw [h0] at e2
                    cases e2
                    exact .slice b 0 n (some cap') s0 p a' cap' hpb ha hcl hR (.inl ⟨cap', rfl, rfl⟩)
                  | succ q => exact he.2 (q + 1) x u (by simpa using e1) e2
                obtain ⟨⟨r1, r2⟩, e, b2, c2, ex, lb, mb, q1, q2, q3, q4, q5⟩ := (run Hp b n cap' j bv lp lv hbp hvp hbv hlpl hcl hin hl1 hl2 (by rw [htk]; exact hone) hn2).ex
                simp only at q1 q2 q3 q4 q5
                subst q1
                rw [hnew] at q2
                have hpl : Hp.length = H.length := by rw [hHp]; simp
                simp only [callA, hp, List.nil_append, List.append_nil] at e
                obtain ⟨g1, g2⟩ := sound_fn hg (sound_call hg K) e hrp hep
                refine ⟨g1, (callsIn_wide.1 (g2 0)).mono ?_⟩
                rintro e w' ⟨v', φ2, rfl, s, hv'⟩
                cases hv' with
                | slice _ _ _ _ _ p2 a2 cap2 f2 ha2 hl2' hR2 hc2 =>
                  obtain ⟨φ3, t1, t2⟩ := renew hr hpb hb hHp s.toSim q2 (fun x hx hn => by rw [q3 x (by omega) hn, hHp, List.getElem?_set_ne (by omega)]) (by
                    rcases q4 with ⟨h, _⟩ | ⟨h, _⟩
                    · exact .inl h
                    · exact .inr (by omega)) q5 (by rw [newR_refs hrf hl3]; simp) f2
                  refine ⟨_, φ3, rfl, ⟨t1, s.str⟩, .slice _ 0 _ none s0 p2 a2 cap2 t2 ha2 hl2' hR2 (.inr ⟨rfl, ?_⟩)⟩
                  rcases q4 with ⟨rfl, rfl⟩ | ⟨_, rfl⟩
                  · have := s.ext _ _ hpb
                    rw [f2] at this
                    cases this
                    rcases hc2 with ⟨c, hc, hc'⟩ | ⟨hc, _⟩
                    · cases hc; rw [hc']; exact hcap
                    · cases hc
                  · rcases hc2 with ⟨c, hc, _⟩ | ⟨_, hc⟩
                    · cases hc
                    · exact hc
            · cases h
          · cases h
        · cases h
      · cases h
    · cases h
  · cases h
/-- More functions that are told by a contract. -/
theorem Agree.prims {P : Program} {ap : AP} (h : Agree P ap) (pr : Nat → Option (List AV → Nat → AH → Option (AV × AH))) (hp : ∀ f g, pr f = some g → PrimOk P f g) : Agree P { ap with prim := pr } where
  mixed := h.mixed
  ty := h.ty
  ext := h.ext
  fn := h.fn
  prim := hp
theorem Agree.exts {P : Program} {ap : AP} (h : Agree P ap) (hp0 : ∀ f, ap.prim f = none) (ex : Nat → Option (List AV → AH → Option (AV × AH))) (hx : ∀ f g, ex f = some g → ExtOk P f g) (b : Bool) : Agree P { ap with ext := ex, pl := b } where
  mixed := h.mixed
  ty := h.ty
  ext := hx
  fn := h.fn
  prim := fun f g e => by rw [hp0 f] at e; cases e
end Go.Ab
end
