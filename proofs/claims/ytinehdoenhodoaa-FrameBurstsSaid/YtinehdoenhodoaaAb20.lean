import Derived.Test.YtinehdoenhodoaaAb19
/-! Rules: what stays of memory, slices that are read, slices of one's own, loops by what holds ahead of each round. -/
set_option linter.unusedVariables false
set_option linter.unusedSimpArgs false
namespace Go.Ab
theorem Hx.mapp {α β : Type} {o : Option α} {f : α → β} {P : α → Prop} {Q : β → Prop} (h : Hx o P) (hq : ∀ a, P a → Q (f a)) : Hx (o.map f) Q := by
  obtain ⟨r, rfl, h⟩ := h
  simpa using hq r h
theorem Hx.bindd {α β : Type} {o : Option α} {f : α → Option β} {P : α → Prop} {Q : β → Prop} (h : Hx o P) (hq : ∀ a, P a → Hx (f a) Q) : Hx (o.bind f) Q := by
  obtain ⟨r, rfl, h⟩ := h
  simpa using hq r h
theorem Hx.ex {α : Type} {o : Option α} {P : α → Prop} (h : Hx o P) : ∃ r, o = some r ∧ P r := Hx_iff.1 h
theorem Hx.som {α : Type} {a : α} {P : α → Prop} (h : P a) : Hx (some a) P := ⟨a, rfl, h⟩
theorem Hx.of {α : Type} {o : Option α} {r : α} {P : α → Prop} (e : o = some r) (h : P r) : Hx o P := ⟨r, e, h⟩

@[simp] theorem app_get0 {H X : AH} : (H ++ X)[H.length]? = X[0]? := by rw [List.getElem?_append_right (Nat.le_refl _), Nat.sub_self]
@[simp] theorem app_get {H X : AH} {i : Nat} : (H ++ X)[H.length + i]? = X[i]? := by rw [List.getElem?_append_right (Nat.le_add_right _ _), Nat.add_sub_cancel_left]
/-! ### what stays -/
/-- From H to H' only the blocks of F are turned. -/
def Chg (F : List Nat) (H H' : AH) : Prop := H.length ≤ H'.length ∧ ∀ i, i < H.length → i ∉ F → H'[i]? = H[i]?
theorem Chg.refl {F : List Nat} {H : AH} : Chg F H H := ⟨Nat.le_refl _, fun _ _ _ => rfl⟩
theorem Chg.trans {F G : List Nat} {H0 H1 H2 : AH} (a : Chg F H0 H1) (b : Chg G H1 H2) (h : ∀ i ∈ G, i ∈ F ∨ H0.length ≤ i) : Chg F H0 H2 :=
  ⟨Nat.le_trans a.1 b.1, fun i hi hn => by
    rw [b.2 i (Nat.lt_of_lt_of_le hi a.1) (fun hg => (h i hg).elim hn (by omega)), a.2 i hi hn]⟩
theorem Chg.tr {F : List Nat} {H0 H1 H2 : AH} (a : Chg F H0 H1) (b : Chg [] H1 H2) : Chg F H0 H2 := a.trans b (by simp)
theorem Chg.tr' {F : List Nat} {H0 H1 H2 : AH} (a : Chg F H0 H1) (b : Chg F H1 H2) : Chg F H0 H2 := a.trans b (fun i h => .inl h)
theorem Chg.mono {F G : List Nat} {H H' : AH} (a : Chg F H H') (h : ∀ i ∈ F, i ∈ G ∨ H.length ≤ i) : Chg G H H' := ⟨a.1, fun i hi hn => a.2 i hi (fun hf => (h i hf).elim hn (by omega))⟩
theorem Chg.nil {F : List Nat} {H H' : AH} (a : Chg [] H H') : Chg F H H' := a.mono (by simp)
theorem Chg.app {F : List Nat} (H X : AH) : Chg F H (H ++ X) := ⟨by simp, fun i hi _ => by rw [List.getElem?_append_left hi]⟩
theorem Chg.set (H : AH) (b : Nat) (A : AB) : Chg [b] H (H.set b A) := ⟨by simp, fun i hi hn => by rw [List.getElem?_set_ne (fun h => hn (by simp [h]))]⟩
theorem Chg.get {F : List Nat} {H H' : AH} (a : Chg F H H') {i : Nat} {A : AB} (e : H[i]? = some A) (hn : i ∉ F) : H'[i]? = some A := by
  rw [a.2 i (List.getElem?_eq_some_iff.1 e).1 hn]; exact e
theorem lt_of_get {H : AH} {i : Nat} {A : AB} (e : H[i]? = some A) : i < H.length := (List.getElem?_eq_some_iff.1 e).1
theorem rowOf_lt {H : AH} {b : Nat} {l : List AV} (h : rowOf H b = some l) : b < H.length := by
  unfold rowOf at h
  cases e : H[b]? with
  | none => rw [e] at h; cases h
  | some A => exact lt_of_get e
theorem rowOf_rw {H : AH} {b : Nat} {l : List AV} (h : H[b]? = some (.cells l .rw)) : rowOf H b = some l := by simp [rowOf, h]
theorem rowRw_rw {H : AH} {b : Nat} {l : List AV} (h : H[b]? = some (.cells l .rw)) : rowRw H 0 b = some l := by simp [rowRw, h]
theorem rowOf_self {H : AH} {b : Nat} {l : List AV} (h : b < H.length) : rowOf (H.set b (.cells l .rw)) b = some l := rowOf_rw (List.getElem?_set_self h)
theorem rowRw_self {H : AH} {b : Nat} {l : List AV} (h : b < H.length) : rowRw (H.set b (.cells l .rw)) 0 b = some l := rowRw_rw (List.getElem?_set_self h)
theorem Chg.row {F : List Nat} {H H' : AH} (a : Chg F H H') {b : Nat} {l : List AV} (h : rowOf H b = some l) (hn : b ∉ F) : rowOf H' b = some l := by
  have := a.2 b (rowOf_lt h) hn
  unfold rowOf at h ⊢
  rw [this]; exact h

/-! ### slices that are read -/
def blk : AV → List Nat
  | .slice (some (b, _)) _ _ _ => [b]
  | _ => []
@[simp] theorem blk_some {p : Nat × Nat} {n : Nat} {c : Option Nat} {s : Nat} : blk (.slice (some p) n c s) = [p.1] := rfl
@[simp] theorem blk_none {n : Nat} {c : Option Nat} {s : Nat} : blk (.slice none n c s) = [] := rfl
inductive SL (H : AH) (sz : Nat) : AV → List AV → Prop
  | nil (c : Option Nat) (s : Nat) : SL H sz (.slice none 0 c s) []
  | at_ (b o n : Nat) (c : Option Nat) (l cs : List AV) (hz : 0 < sz) (h1 : rowOf H b = some l) (h2 : o + n * sz ≤ l.length) (h3 : (l.drop o).take (n * sz) = cs) (h4 : ∀ k, c = some k → n ≤ k) : SL H sz (.slice (some (b, o)) n c sz) cs
/-- A slice of bytes. -/
abbrev B8 (H : AH) (v : AV) (bs : List Int) : Prop := SL H 1 v (u8s bs)
section
variable {H H' : AH} {sz : Nat} {v : AV} {cs : List AV} {F : List Nat}
theorem SL.chg (h : SL H sz v cs) (c : Chg F H H') (hF : ∀ i ∈ blk v, i ∉ F) : SL H' sz v cs := by
  cases h with
  | nil c s => exact .nil c s
  | at_ b o n k l cs hz h1 h2 h3 h4 => exact .at_ b o n k l cs hz (c.row h1 (hF b (by simp))) h2 h3 h4
theorem SL.keep (h : SL H sz v cs) (c : Chg [] H H') : SL H' sz v cs := h.chg c (by simp)
theorem SL.form (h : SL H sz v cs) : ∃ a n c s, v = .slice a n c s ∧ n * sz = cs.length := by
  cases h with
  | nil c s => exact ⟨none, 0, c, s, rfl, by simp⟩
  | at_ b o n c l cs hz h1 h2 h3 h4 => exact ⟨_, n, c, sz, rfl, by rw [← h3]; simp; omega⟩
theorem SL.sz_ok (h : SL H sz v cs) : szOk sz v = true := by cases h <;> simp
theorem SL.first (h : SL H sz v cs) {n : Nat} (hn : n * sz = cs.length) : firstC H sz n v = some cs := by
  cases h with
  | nil c s => rfl
  | at_ b o m c l cs hz h1 h2 h3 h4 =>
    have : n * sz = m * sz := by rw [hn, ← h3]; simp; omega
    have hnm := Nat.eq_of_mul_eq_mul_right hz this
    subst hnm
    simp [firstC, h1, h2, h3]
theorem SL.lt (h : SL H sz v cs) : ∀ i ∈ blk v, i < H.length := by
  cases h with
  | nil c s => simp
  | at_ b o n c l cs hz h1 h2 h3 h4 => simpa using rowOf_lt h1
theorem SL.bs {bs : List Int} (h : B8 H v bs) : BS H v bs := by
  change SL H 1 v (u8s bs) at h
  revert h
  generalize hg : u8s bs = cs
  intro h
  cases h with
  | nil c s =>
    obtain rfl : bs = [] := by simpa [u8s] using hg
    exact .nil c s
  | at_ b o n c l cs hz h1 h2 h3 h4 =>
    subst hg
    refine .at_ b o n c l bs h1 (by omega) (by simpa using h3) ?_
    have := congrArg List.length h3
    simp at this; omega
theorem SL.len8 {bs : List Int} (h : B8 H v bs) : ∃ a c s, v = .slice a bs.length c s := by
  obtain ⟨a, n, c, s, rfl, e⟩ := h.form
  exact ⟨a, c, s, by simp at e; rw [e]⟩
theorem SL.inj {ds : List AV} (h : SL H sz v cs) (k : SL H sz v ds) : cs = ds := by
  obtain ⟨a, n, c, s, rfl, e⟩ := h.form
  obtain ⟨a', n', c', s', e2, e'⟩ := k.form
  injection e2 with _ e2 _ _
  subst e2
  have := h.first e
  rw [k.first e'] at this
  exact (Option.some.inj this).symm
/-- The cells of element i. -/
theorem SL.get (h : SL H sz v cs) {i : Nat} (hi : (i + 1) * sz ≤ cs.length) (hz : 0 < sz) : ∃ b o n c l, v = .slice (some (b, o)) n c sz ∧ i < n ∧ rowOf H b = some l ∧ o + i * sz + sz ≤ l.length ∧ (l.drop (o + i * sz)).take sz = (cs.drop (i * sz)).take sz := by
  cases h with
  | nil c s =>
    have : 0 < (i + 1) * sz := Nat.mul_pos (by omega) hz
    simp at hi; omega
  | at_ b o n c l cs hz h1 h2 h3 h4 =>
    have hl : cs.length = n * sz := by rw [← h3]; simp; omega
    have hin : i < n := by
      rw [hl] at hi
      exact Nat.lt_of_succ_le (Nat.le_of_mul_le_mul_right hi hz)
    have hmul : (i + 1) * sz ≤ n * sz := Nat.mul_le_mul_right sz hin
    rw [Nat.add_mul, Nat.one_mul] at hmul
    refine ⟨b, o, n, c, l, rfl, hin, h1, by omega, ?_⟩
    rw [← h3, List.drop_take, List.take_take, List.drop_drop, Nat.min_eq_left (by omega)]
theorem SL.get8 {bs : List Int} (h : B8 H v bs) {i : Nat} (hi : i < bs.length) : ∃ b o c l, v = .slice (some (b, o)) bs.length c 1 ∧ rowOf H b = some l ∧ l[o + i]? = some (.int .u8 (bs.getD i 0)) := by
  obtain ⟨a, c, s, rfl⟩ := h.len8
  obtain ⟨b, o, l, rfl, rfl, h1, h2⟩ := h.bs.get i hi
  exact ⟨b, o, c, l, rfl, h1, h2⟩
theorem toStr_b8 {bs : List Int} (h : B8 H v bs) : toStr H v = some (.str (strN bs)) := by
  have hf := h.first (n := bs.length) (by simp)
  obtain ⟨a, c, s, rfl⟩ := h.len8
  have hs := h.sz_ok
  cases a with
  | none =>
    have : bs = [] := by
      have g := h.bs
      generalize hn : bs.length = n at g
      cases g
      rfl
    subst this
    rfl
  | some p =>
    simp at hs
    subst hs
    unfold toStr
    simp only [if_true, hf, Option.bind_some, numsAV_u8s, Option.map_some]
theorem SL.form1 {H : AH} {v : AV} {cs : List AV} (h : SL H 1 v cs) : ∃ a c s, v = .slice a cs.length c s := by
  obtain ⟨a, n, c, s, rfl, e⟩ := h.form
  exact ⟨a, c, s, by simp at e; rw [e]⟩
theorem SL.get1 {H : AH} {v : AV} {cs : List AV} (h : SL H 1 v cs) {i : Nat} (hi : i < cs.length) : ∃ b o c l, v = .slice (some (b, o)) cs.length c 1 ∧ rowOf H b = some l ∧ l[o + i]? = cs[i]? := by
  obtain ⟨b, o, n, c, l, rfl, h1, h2, h3, h4⟩ := h.get (i := i) (by omega) Nat.one_pos
  obtain ⟨a', c', s', e⟩ := h.form1
  injection e with _ e _ _
  refine ⟨b, o, c, l, by rw [e], h2, ?_⟩
  have := congrArg (fun l => l[0]?) h4
  simpa [List.getElem?_take, List.getElem?_drop] using this
/-- A row that is there. -/
theorem SL.mk {b n : Nat} {c : Option Nat} {l : List AV} (hz : 0 < sz) (h1 : rowOf H b = some l) (hn : n * sz = l.length) (h4 : ∀ k, c = some k → n ≤ k) : SL H sz (.slice (some (b, 0)) n c sz) l :=
  .at_ b 0 n c l l hz h1 (by omega) (by rw [List.drop_zero, hn, List.take_length]) h4
theorem SL.cap0 {x : Nat × Nat} {c : Option Nat} {l : List AV} (hz : 0 < sz) (h1 : rowOf H x.1 = some l) (h2 : x.2 ≤ l.length) : SL H sz (.slice (some x) 0 c sz) [] := by
  obtain ⟨b, o⟩ := x
  exact .at_ b o 0 c l [] hz h1 (by simp at h2 ⊢; omega) (by simp) (by omega)
def lowIs : Option AV → Nat → Prop
  | none, n => n = 0
  | some (.int _ i), n => i = n
  | _, _ => False
def highIs (len : Nat) : Option AV → Nat → Prop
  | none, n => n = len
  | some (.int _ i), n => i = n
  | _, _ => False
theorem abound_of {y n : Nat} {k : IntKind} {i : Int} (h : i = n) (hn : n ≤ y) : abound y (.int k i) = some n := by
  subst h; simp [abound, hn]
theorem SL.cut {low high : Option AV} (h : SL H sz v cs) (hz : 0 < sz) {lo hi : Nat} (hl : lo ≤ hi) (hh : hi * sz ≤ cs.length) (e1 : lowIs low lo) (e2 : ∀ n, n * sz = cs.length → highIs n high hi) :
    ∃ v', aslice H sz v low high none = some v' ∧ SL H sz v' ((cs.take (hi * sz)).drop (lo * sz)) ∧ (∀ i ∈ blk v', i ∈ blk v) ∧ (lo = 0 → ∀ a n c s, v = .slice (some a) n c s → v' = .slice (some a) hi c s) := by
  cases h with
  | nil c s =>
    have e2 := e2 0 (by simp)
    have h0 : hi = 0 := by
      rcases Nat.eq_zero_or_pos hi with h | h
      · exact h
      · have := Nat.mul_pos h (by omega : 0 < sz); simp at hh; omega
    subst h0
    obtain rfl : lo = 0 := by omega
    refine ⟨.slice none 0 (some 0) sz, ?_, by simpa using SL.nil _ _, by simp, fun _ _ _ _ _ h => by cases h⟩
    rcases low with _ | low
    · rcases high with _ | high
      · simp [aslice]
      · cases high <;> simp only [highIs] at e2 <;> try contradiction
        simp [aslice, e2, abound]
    · cases low <;> simp only [lowIs] at e1 <;> try contradiction
      rcases high with _ | high
      · simp [aslice, e1, abound]
      · cases high <;> simp only [highIs] at e2 <;> try contradiction
        simp [aslice, e1, e2, abound]
  | at_ b o n c l cs hz h1 h2 h3 h4 =>
    have hlen : cs.length = n * sz := by rw [← h3]; simp; omega
    have e2 := e2 n hlen.symm
    have hin : hi ≤ n := by
      rw [hlen] at hh
      exact Nat.le_of_mul_le_mul_right hh hz
    have hm1 : lo * sz ≤ hi * sz := Nat.mul_le_mul_right sz hl
    have hm2 : hi * sz ≤ n * sz := Nat.mul_le_mul_right sz hin
    have key : SL H sz (.slice (some (b, o + lo * sz)) (hi - lo) (c.map (· - lo)) sz) ((cs.take (hi * sz)).drop (lo * sz)) := by
      refine .at_ b _ _ _ l _ hz h1 (by rw [Nat.sub_mul]; omega) ?_ (fun k hk => ?_)
      · rw [← h3, List.take_take, Nat.min_eq_left hm2, List.drop_take, List.drop_drop, Nat.sub_mul]
      · cases c with
        | none => cases hk
        | some c' =>
          simp at hk
          have := h4 c' rfl
          omega
    refine ⟨_, ?_, key, by simp, ?_⟩
    · rcases high with _ | high
      · simp only [highIs] at e2
        subst e2
        rcases low with _ | low
        · simp only [lowIs] at e1
          subst e1
          simp [aslice]
        · cases low <;> simp only [lowIs] at e1 <;> try contradiction
          simp [aslice, abound_of e1 hl]
      · cases high <;> simp only [highIs] at e2 <;> try contradiction
        have hb : ∀ k', abound n (.int k' _) = some hi := fun k' => abound_of (k := k') e2 hin
        rcases low with _ | low
        · simp only [lowIs] at e1
          subst e1
          cases c with
          | none => simp [aslice, hb, Option.orElse]
          | some c =>
            have := abound_of (k := .i64) e2 (Nat.le_trans hin (h4 c rfl))
            simp [aslice, abound] at this ⊢
            simp [this]
        · cases low <;> simp only [lowIs] at e1 <;> try contradiction
          have hlow := abound_of (k := .i64) e1 hl
          cases c with
          | none =>
            simp [aslice, hb, Option.orElse]
            simp [abound] at hlow ⊢
            simp [hlow]
          | some c =>
            have := abound_of (k := .i64) e2 (Nat.le_trans hin (h4 c rfl))
            simp [aslice, abound] at this hlow ⊢
            simp [this, hlow]
    · rintro rfl a n' c' s' e
      injection e with e1 e2 e3 e4
      injection e1 with e1
      subst e1 e2 e3 e4
      cases c <;> simp
end

theorem u8s_td {bs : List Int} {lo hi : Nat} : ((u8s bs).take (hi * 1)).drop (lo * 1) = u8s ((bs.take hi).drop lo) := by rw [Nat.mul_one, Nat.mul_one, u8s_take, u8s_drop]
theorem SL.cut8 {H : AH} {v : AV} {bs : List Int} {low high : Option AV} (h : B8 H v bs) {lo hi : Nat} (hl : lo ≤ hi) (hh : hi ≤ bs.length) (e1 : lowIs low lo) (e2 : highIs bs.length high hi) :
    ∃ v', aslice H 1 v low high none = some v' ∧ B8 H v' ((bs.take hi).drop lo) ∧ (∀ i ∈ blk v', i ∈ blk v) ∧ (lo = 0 → ∀ a n c s, v = .slice (some a) n c s → v' = .slice (some a) hi c s) := by
  obtain ⟨v', h1, h2, h3, h4⟩ := SL.cut (low := low) (high := high) h Nat.one_pos hl (by simpa using hh) e1 (fun n hn => by simp at hn; rw [hn]; exact e2)
  rw [u8s_td] at h2
  exact ⟨v', h1, h2, h3, h4⟩
theorem aslice_chg {H H' : AH} {F : List Nat} {sz : Nat} {v v' : AV} {lo hi mx : Option AV} (c : Chg F H H') (hF : ∀ i ∈ blk v, i ∉ F) (e : aslice H sz v lo hi mx = some v') : aslice H' sz v lo hi mx = some v' := by
  cases v with
  | slice a len cap s =>
    cases a with
    | none => exact e
    | some p =>
      obtain ⟨b, o⟩ := p
      cases cap with
      | some k =>
        cases mx <;> cases hi <;> exact e
      | none =>
        cases mx with
        | some m => cases hi <;> exact e
        | none =>
          cases hi with
          | none => exact e
          | some hv =>
            have key : ∀ h, ((abound len hv).orElse fun _ => (rowOf H b).bind fun r => (abound r.length hv).bind fun h => if o + h * sz ≤ r.length then some h else none) = some h →
                ((abound len hv).orElse fun _ => (rowOf H' b).bind fun r => (abound r.length hv).bind fun h => if o + h * sz ≤ r.length then some h else none) = some h := by
              intro h
              cases abound len hv with
              | some x => exact id
              | none =>
                simp only [Option.orElse]
                intro g
                obtain ⟨r, g1, g2⟩ := Option.bind_eq_some_iff.1 g
                rw [c.row g1 (hF b (by simp)), Option.bind_some]
                exact g2
            unfold aslice at e ⊢
            simp only at e ⊢
            split
            · rename_i hs; rw [if_pos hs] at e; cases e
            · rename_i hs
              rw [if_neg hs] at e
              obtain ⟨h, g1, g2⟩ := Option.bind_eq_some_iff.1 e
              exact Option.bind_eq_some_iff.2 ⟨h, key h g1, g2⟩
  | _ => exact e

/-! ### slices of one's own: they lie at the beginning of a row that may be written -/
inductive Mine (H : AH) (sz : Nat) : AV → List AV → Prop
  | nil (c : Option Nat) (s : Nat) : Mine H sz (.slice none 0 c s) []
  | row (b n : Nat) (c : Option Nat) (l cs : List AV) (hz : 0 < sz) (h1 : H[b]? = some (.cells l .rw)) (h2 : n * sz ≤ l.length) (h3 : l.take (n * sz) = cs) (h4 : ∀ k, c = some k → l.length = k * sz) : Mine H sz (.slice (some (b, 0)) n c sz) cs
section
variable {H H' : AH} {sz : Nat} {v : AV} {cs : List AV} {F : List Nat}
theorem Mine.chg (h : Mine H sz v cs) (c : Chg F H H') (hF : ∀ i ∈ blk v, i ∉ F) : Mine H' sz v cs := by
  cases h with
  | nil c s => exact .nil c s
  | row b n k l cs hz h1 h2 h3 h4 => exact .row b n k l cs hz (c.get h1 (hF b (by simp))) h2 h3 h4
theorem Mine.keep (h : Mine H sz v cs) (c : Chg [] H H') : Mine H' sz v cs := h.chg c (by simp)
theorem Mine.sl (h : Mine H sz v cs) : SL H sz v cs := by
  cases h with
  | nil c s => exact .nil c s
  | row b n k l cs hz h1 h2 h3 h4 =>
    refine .at_ b 0 n k l cs hz (rowOf_rw h1) (by omega) (by simpa using h3) (fun q e => ?_)
    rw [h4 q e] at h2
    exact Nat.le_of_mul_le_mul_right h2 hz
theorem Mine.lt (h : Mine H sz v cs) : ∀ i ∈ blk v, i < H.length := h.sl.lt
/-- A row that was just made. -/
theorem Mine.new {X : AH} {l : List AV} {n : Nat} {c : Option Nat} (hz : 0 < sz) (hX : X = H ++ [.cells l .rw]) (hn : n * sz ≤ l.length) (h4 : ∀ k, c = some k → l.length = k * sz) : Mine X sz (.slice (some (H.length, 0)) n c sz) (l.take (n * sz)) :=
  .row _ n c l _ hz (by subst hX; simp) hn rfl h4
theorem Mine.appendC {by_ n : Nat} {xs : List AV} (h : Mine H sz v cs) (hn : n * sz = xs.length) (hz : 0 < sz) (hb : 0 < by_) (hr : (cs.length + xs.length) * by_ ≤ room) :
    Hx (aappendC 0 H sz by_ v n xs) fun r => Mine r.2 sz r.1 (cs ++ xs) ∧ Chg (blk v) H r.2 ∧ ∀ i ∈ blk r.1, i ∈ blk v ∨ H.length ≤ i := by
  have hrm : ∀ k m : Nat, k * sz = cs.length → m * sz = xs.length → (k + m) * by_ ≤ room := fun k m e1 e2 => by
    refine Nat.le_trans (Nat.mul_le_mul_right by_ ?_) hr
    rw [← e1, ← e2, ← Nat.add_mul]
    exact Nat.le_mul_of_pos_right _ hz
  unfold aappendC
  cases h with
  | nil c s =>
    by_cases h0 : n = 0
    · subst h0
      have : xs = [] := by simpa using hn.symm
      subst this
      simp
      exact ⟨.nil _ _, .refl⟩
    · have := hrm 0 n (by simp) hn
      simp at this
      simp [h0, this]
      refine ⟨?_, .app _ _⟩
      have hk := Mine.new (H := H) (X := H ++ [.cells xs .rw]) (l := xs) (n := n) (c := none) hz rfl (by omega) (by simp)
      rw [hn, List.take_length] at hk
      exact hk
  | row b m k l cs hz g1 g2 g3 g4 =>
    have hcs : cs.length = m * sz := by rw [← g3]; simp; omega
    by_cases h0 : n = 0
    · subst h0
      have : xs = [] := by simpa using hn.symm
      subst this
      simp
      exact ⟨.row b m k l cs hz g1 g2 g3 g4, .refl⟩
    · have hroom := hrm m n hcs.symm hn
      have hmul : (m + n) * sz = m * sz + n * sz := Nat.add_mul _ _ _
      have hin : ∀ k' : Nat, (m + n) * sz ≤ l.length → Mine (H.set b (.cells (splice l (m * sz) xs) .rw)) sz (.slice (some (b, 0)) (m + n) k sz) (cs ++ xs) := fun _ hle => by
        refine .row b (m + n) k _ _ hz (by rw [List.getElem?_set_self (lt_of_get g1)]) (by simp [splice]; omega) ?_ (fun q e => by rw [← g4 q e]; simp [splice]; omega)
        unfold splice
        rw [g3, List.take_append_of_le_length (by simp; omega), List.take_of_length_le (by simp; omega)]
      have hnew : ∀ H2 : AH, H2.length = H.length → Mine (H2 ++ [.cells (l.take (m * sz) ++ xs) .rw]) sz (.slice (some (H.length, 0)) (m + n) none sz) (cs ++ xs) := fun H2 h2 => by
        have := Mine.new (H := H2) (sz := sz) (l := l.take (m * sz) ++ xs) (n := m + n) (c := none) hz rfl (by simp; omega) (by simp)
        rw [h2] at this
        rw [← g3]
        rw [List.take_of_length_le (l := l.take (m * sz) ++ xs) (by simp; omega)] at this
        exact this
      simp only [h0, if_false, rowOf_rw g1, rowRw_rw g1, Option.bind_some, Nat.zero_add, g2, if_true]
      cases k with
      | some k =>
        have hk := g4 k rfl
        by_cases hle : m + n ≤ k
        · have hle' : (m + n) * sz ≤ l.length := by rw [hk]; exact Nat.mul_le_mul_right sz hle
          simp only [hle, hle', if_true, Hx_some]
          exact Hx.som ⟨hin 0 hle', .set _ _ _, by simp⟩
        · simp only [hle, if_false, hroom, if_true, Hx_some, List.drop_zero]
          exact Hx.som ⟨hnew H rfl, .app _ _, by simp⟩
      | none =>
        simp only [hroom, if_true]
        by_cases hle : (m + n) * sz ≤ l.length
        · simp only [hle, if_true, Hx_some]
          exact Hx.som ⟨hin 0 hle, .set _ _ _, by simp⟩
        · simp only [hle, if_false, Hx_some, List.drop_zero]
          exact Hx.som ⟨hnew _ (by simp), (Chg.set _ _ _).tr (.app _ _), by simp⟩
theorem Mine.append {by_ : Nat} {x : AV} {xs : List AV} (h : Mine H sz v cs) (hx : SL H sz x xs) (hz : 0 < sz) (hb : 0 < by_) (h1 : xs.all AV.one = true) (hr : (cs.length + xs.length) * by_ ≤ room) :
    Hx (aappend 0 H sz by_ v x) fun r => Mine r.2 sz r.1 (cs ++ xs) ∧ Chg (blk v) H r.2 ∧ ∀ i ∈ blk r.1, i ∈ blk v ∨ H.length ≤ i := by
  obtain ⟨a, n, c, s, rfl, hn⟩ := hx.form
  have hf := hx.first hn
  have hs := hx.sz_ok
  have hs' := h.sl.sz_ok
  rw [aappend_eq]
  have e : (szOk sz v && szOk sz (.slice a n c s) && (decide (0 < sz) && decide (0 < by_))) = true := by rw [hs', hs, decide_eq_true hz, decide_eq_true hb]; rfl
  rw [if_pos e]
  simp only [lenOf, Option.bind_some, hf, h1, Bool.true_eq_false, if_false, tag_eq]
  exact h.appendC hn hz hb hr
/-- append of noughts. -/
theorem Mine.appendZ {te : TI} {m : Nat} (h : Mine H te.sz v cs) (hz : 0 < te.sz) (hb : 0 < te.by_) (hl : te.zero.length = te.sz) (h1 : te.zero.all AV.one = true) (hm : m * te.by_ ≤ room) (hr : (cs.length + m * te.sz) * te.by_ ≤ room) :
    Hx (aappendZ 0 H te v (.int .i64 m)) fun r => Mine r.2 te.sz r.1 (cs ++ (List.replicate m te.zero).flatten) ∧ Chg (blk v) H r.2 ∧ ∀ i ∈ blk r.1, i ∈ blk v ∨ H.length ≤ i := by
  have hlen : (List.replicate m te.zero).flatten.length = m * te.sz := by simp [hl]
  unfold aappendZ
  simp only
  rw [if_pos (by simp only [h.sl.sz_ok, h1, decide_eq_true hz, decide_eq_true hb, Int.toNat_natCast, decide_eq_true hm, decide_eq_true (Int.natCast_nonneg m), Bool.and_self])]
  rw [Int.toNat_natCast]
  exact h.appendC hlen.symm hz hb (by rw [hlen]; exact hr)
end

theorem Mine.cut {H : AH} {sz : Nat} {v : AV} {cs : List AV} (h : Mine H sz v cs) (hz : 0 < sz) {m : Nat} (hm : m * sz ≤ cs.length) {high : Option AV} (e2 : ∀ n, n * sz = cs.length → highIs n high m) :
    ∃ v', aslice H sz v none high none = some v' ∧ Mine H sz v' (cs.take (m * sz)) ∧ ∀ i ∈ blk v', i ∈ blk v := by
  obtain ⟨v', a, s, k, e⟩ := h.sl.cut (low := none) (high := high) hz (lo := 0) (hi := m) (Nat.zero_le _) hm rfl e2
  refine ⟨v', a, ?_, k⟩
  rw [Nat.zero_mul, List.drop_zero] at s
  cases h with
  | nil c s0 =>
    have : v' = .slice none 0 (some 0) sz := by
      have e2 := e2 0 (by simp)
      rcases high with _ | high
      · simp [aslice] at a; exact a.symm
      · cases high <;> simp only [highIs] at e2 <;> try contradiction
        have hm0 : m = 0 := by
          rcases Nat.eq_zero_or_pos m with h | h
          · exact h
          · have := Nat.mul_pos h hz; simp at hm; omega
        subst hm0
        simp [aslice, e2, abound] at a
        exact a.symm
    subst this
    simpa using Mine.nil _ _
  | row b n c l cs hz h1 h2 h3 h4 =>
    have := e rfl (b, 0) n c sz rfl
    subst this
    have hcs : cs.length = n * sz := by rw [← h3]; simp; omega
    refine .row b m c l _ hz h1 (by omega) ?_ h4
    rw [← h3, List.take_take, Nat.min_eq_left (by omega)]
theorem Mine.cut8 {H : AH} {v : AV} {bs : List Int} (h : Mine H 1 v (u8s bs)) {m : Nat} (hm : m ≤ bs.length) {high : Option AV} (e2 : highIs bs.length high m) :
    ∃ v', aslice H 1 v none high none = some v' ∧ Mine H 1 v' (u8s (bs.take m)) ∧ ∀ i ∈ blk v', i ∈ blk v := by
  obtain ⟨v', h1, h2, h3⟩ := h.cut Nat.one_pos (m := m) (high := high) (by simpa using hm) (fun n hn => by simp at hn; rw [hn]; exact e2)
  rw [Nat.mul_one, u8s_take] at h2
  exact ⟨v', h1, h2, h3⟩
/-- An environment of which little is known. -/
def sp (n : Nat) (l : List (Nat × AV)) : List AV := l.foldl (fun e p => e.set p.1 p.2) (List.replicate n .undef)
attribute [simp] sp
/-! ### loops, by what holds ahead of each round -/
/-- Behind a round. -/
def upK (P : St → Prop) (Q : Ex × St → Prop) (r : Ex × St) : Prop := match r.1 with | .normal => P r.2 | _ => Q r
@[simp] theorem upK_normal {P : St → Prop} {Q : Ex × St → Prop} {s : St} : upK P Q (.normal, s) = P s := propext ⟨fun h => h, fun h => h⟩
@[simp] theorem upK_exit {P : St → Prop} {Q : Ex × St → Prop} {i : Nat} {s : St} : upK P Q (.exit i, s) = Q (.exit i, s) := propext ⟨fun h => h, fun h => h⟩
@[simp] theorem upK_ret {P : St → Prop} {Q : Ex × St → Prop} {s : St} : upK P Q (.ret, s) = Q (.ret, s) := propext ⟨fun h => h, fun h => h⟩
@[congr] theorem upK_congr {P : St → Prop} {Q : Ex × St → Prop} {r r' : Ex × St} (h : tag r = r') : upK P Q r = upK P Q r' := by cases h; rfl
theorem upK_or {P : St → Prop} {Q : Ex × St → Prop} {r : Ex × St} (h : upK P Q r) : (r.1 = .normal ∧ P r.2) ∨ (r.1 ≠ .normal ∧ Q r) := by
  obtain ⟨x, s⟩ := r
  cases x with
  | normal => exact .inl ⟨rfl, h⟩
  | exit i => exact .inr ⟨by simp, h⟩
  | ret => exact .inr ⟨by simp, h⟩
theorem evLoop_inv {g : St → Option (Ex × St)} {M : St → St} (I : Nat → St → Prop) {Q : Ex × St → Prop}
    (hs : ∀ j s, I j s → Hx (g s) fun r => (r.1 = .normal ∧ ∃ j', j' < j ∧ I j' (M r.2)) ∨ (r.1 ≠ .normal ∧ Q r)) :
    ∀ (k j : Nat) (s : St), j < k → I j (M s) → Hx (evLoop (fun s => g (M s)) k s) Q
  | 0, j, s, h, _ => by omega
  | k + 1, j, s, h, hI => by
    obtain ⟨r, e, h2⟩ := Hx_iff.1 (hs j _ hI)
    simp only [evLoop, e]
    obtain ⟨x, s'⟩ := r
    rcases h2 with ⟨h2, j', h3, h4⟩ | ⟨h2, h3⟩
    · simp only at h2
      subst h2
      simp only [Option.bind_some]
      exact evLoop_inv I hs k j' s' (by omega) h4
    · simp only at h2
      cases x with
      | normal => exact absurd rfl h2
      | exit i => simpa using h3
      | ret => simpa using h3
section
variable {ap : AP} {cf : CallF} {lo k : Nat} {rd : Option Nat} {keep : List Bool} {b : AC} {s : St}
/-- A loop: j tells how many rounds there may be yet. -/
theorem hx_down (I : Nat → St → Prop) {Q : Ex × St → Prop} {j : Nat}
    (hs : ∀ j s, I j s → Hx (evCode ap cf lo rd k b s) (upK (fun s' => ∃ j', j' < j ∧ I j' (maskS keep s')) Q)) (hk : j < k) (h0 : I j (maskS keep s)) :
    Hx (evCode ap cf lo rd k (.loop keep b) s) Q := by
  simp only [evCode]
  exact evLoop_inv (g := evCode ap cf lo rd k b) (M := maskS keep) I (fun j s hI => (hs j s hI).mono fun r h => upK_or h) k j s hk h0
/-- A loop that counts up to n. -/
theorem hx_up (I : Nat → St → Prop) (n : Nat) {Q : Ex × St → Prop}
    (hs : ∀ i s, i < n → I i s → Hx (evCode ap cf lo rd k b s) (upK (fun s' => I (i + 1) (maskS keep s')) Q))
    (he : ∀ s, I n s → Hx (evCode ap cf lo rd k b s) (upK (fun _ => False) Q)) (hk : n < k) (h0 : I 0 (maskS keep s)) :
    Hx (evCode ap cf lo rd k (.loop keep b) s) Q := by
  refine hx_down (fun j s => j ≤ n ∧ I (n - j) s) (j := n) (fun j s ⟨hj, hI⟩ => ?_) hk ⟨Nat.le_refl n, by simpa using h0⟩
  cases j with
  | zero =>
    refine (he s (by simpa using hI)).mono fun r h => ?_
    rcases upK_or h with ⟨_, h⟩ | ⟨h1, h2⟩
    · exact h.elim
    · obtain ⟨x, s'⟩ := r
      cases x with
      | normal => exact absurd rfl h1
      | exit i => exact h2
      | ret => exact h2
  | succ j =>
    refine (hs (n - (j + 1)) s (by omega) hI).mono fun r h => ?_
    obtain ⟨x, s'⟩ := r
    rcases upK_or h with ⟨h1, h2⟩ | ⟨h1, h2⟩
    · simp only at h1 h2
      subst h1
      refine ⟨j, by omega, by omega, ?_⟩
      rw [show n - (j + 1) + 1 = n - j by omega] at h2
      exact h2
    · cases x with
      | normal => exact absurd rfl h1
      | exit i => exact h2
      | ret => exact h2
end
end Go.Ab
