import Derived.Test.YtinehdoenhodoaaAb11
import Derived.OrdersIn
/-! Regions whose order is drawn. -/
set_option linter.unusedVariables false
set_option linter.unusedSimpArgs false
namespace Go.Ab

/-! ### the order alone -/
structure OrdP (ap : AP) (ops : List Oper) (ord : List Nat) (anc : List (List Nat)) : Prop where
  nodup : ord.Nodup
  all : ∀ i, i < ops.length → i ∈ ord
  lt : ∀ i ∈ ord, i < ops.length
  edge : ∀ i o, ops[i]? = some o → ∀ e ∈ edges o, e < ops.length ∧ ord.idxOf e < ord.idxOf i
  one : ∀ i o t, ops[i]? = some o → o.dst = some t → writer ops t = some i
  look : ∀ i o, ops[i]? = some o → ∀ t ∈ o.looksAt ops.toArray, ∀ j, writer ops t = some j → j = i ∨ j ∈ edges o ∨ ∃ p, ops[j]? = some p ∧ i ∈ edges p
  ances : ∀ i o, ops[i]? = some o → ∀ j ∈ ancOf anc i, j ∈ edges o ∨ ∃ e ∈ edges o, j ∈ ancOf anc e
  chain : ∀ i j, i < ops.length → isCl ap ops .e i = true → j < ops.length → isCl ap ops .e j = true → stOf ap ops ord j + 1 = stOf ap ops ord i → j ∈ ancOf anc i
  allocs : ∀ i j, i < ops.length → isCl ap ops .a i = true → j < ops.length → isCl ap ops .e j = true → stOf ap ops ord j = stOf ap ops ord i → i ∈ ancOf anc j

theorem ordP_of {ap : AP} {ops : List Oper} {ord : List Nat} {anc : List (List Nat)} (h : ordOk ap ops ord anc = true) : OrdP ap ops ord anc := by
  unfold ordOk at h
  simp only [Bool.and_eq_true, decide_eq_true_eq, List.all_eq_true, List.mem_range] at h
  obtain ⟨⟨⟨⟨h1, h2⟩, h3⟩, h4⟩, h5⟩ := h
  have hlt : ∀ {i o}, ops[i]? = some o → i < ops.length := fun e => (List.getElem?_eq_some_iff.1 e).1
  have get : ∀ i o, ops[i]? = some o → _ := fun i o e => h5 i (hlt e)
  refine ⟨h1, fun i hi => by simpa using h3 i hi, h4, fun i o ho e he => ?_, fun i o t ho ht => ?_, fun i o ho t ht j hj => ?_, fun i o ho j hj => ?_, fun i j hi hci hj hcj hst => ?_, fun i j hi hci hj hcj hst => ?_⟩
  · have := h5 i (hlt ho)
    rw [ho] at this
    simp only [Bool.and_eq_true] at this
    have h6 := List.all_eq_true.1 this.1.1.1.1.1 e he
    simpa using h6
  · have := h5 i (hlt ho)
    rw [ho] at this
    simp only [Bool.and_eq_true] at this
    have h6 := this.1.1.1.1.2
    rw [ht] at h6
    simpa using h6
  · have := h5 i (hlt ho)
    rw [ho] at this
    simp only [Bool.and_eq_true] at this
    have h6 := List.all_eq_true.1 this.1.1.1.2 t ht
    rw [hj] at h6
    simp only [Bool.or_eq_true, beq_iff_eq, List.contains_iff_mem] at h6
    rcases h6 with (h6 | h6) | h6
    · exact .inl h6
    · exact .inr (.inl h6)
    · cases hp : ops[j]? with
      | none => rw [hp] at h6; cases h6
      | some p => rw [hp] at h6; exact .inr (.inr ⟨p, rfl, by simpa using h6⟩)
  · have := h5 i (hlt ho)
    rw [ho] at this
    simp only [Bool.and_eq_true] at this
    have h6 := List.all_eq_true.1 this.1.1.2 j hj
    simp only [Bool.or_eq_true, List.contains_iff_mem, List.any_eq_true] at h6
    exact h6
  · have := h5 i hi
    cases ho : ops[i]? with
    | none => rw [ho] at this; cases this
    | some o =>
      rw [ho] at this
      simp only [Bool.and_eq_true] at this
      have h6 := this.1.2
      rw [hci] at h6
      simp only [Bool.not_true, Bool.false_or] at h6
      have h7 := List.all_eq_true.1 h6 j (List.mem_range.2 hj)
      rw [hcj] at h7
      simpa [hst] using h7
  · have := h5 i hi
    cases ho : ops[i]? with
    | none => rw [ho] at this; cases this
    | some o =>
      rw [ho] at this
      simp only [Bool.and_eq_true] at this
      have h6 := this.2
      rw [hci] at h6
      simp only [Bool.not_true, Bool.false_or] at h6
      have h7 := List.all_eq_true.1 h6 j (List.mem_range.2 hj)
      rw [hcj] at h7
      simpa [hst] using h7

section
variable {ap : AP} {ops : List Oper} {ord : List Nat} {anc : List (List Nat)}

/-- A set of operations that holds what each waits for. -/
def Closed (ops : List Oper) (D : Nat → Bool) : Prop := ∀ i o, ops[i]? = some o → D i = true → ∀ e ∈ edges o, D e = true
theorem OrdP.reach (h : OrdP ap ops ord anc) {D : Nat → Bool} (hD : Closed ops D) : ∀ (m i : Nat) (o : Oper), ord.idxOf i < m → ops[i]? = some o → (∀ e ∈ edges o, D e = true) → ∀ j ∈ ancOf anc i, D j = true
  | 0, i, o, hm, _, _, _, _ => by omega
  | m + 1, i, o, hm, ho, he, j, hj => by
    rcases h.ances i o ho j hj with hj | ⟨e, h1, h2⟩
    · exact he j hj
    · obtain ⟨h3, h4⟩ := h.edge i o ho e h1
      have hoe : ops[e]? = some ops[e] := by simp [h3]
      exact h.reach hD m e _ (by omega) hoe (hD e _ hoe (he e h1)) j h2

/-! counting those that may turn memory -/
theorem stOf_inj : ∀ (l : List Nat) (i j : Nat), i ∈ l → j ∈ l → isCl ap ops .e i = true → isCl ap ops .e j = true → stOf ap ops l i = stOf ap ops l j → i = j
  | [], _, _, h, _, _, _, _ => by cases h
  | x :: r, i, j, hi, hj, ci, cj, h => by
    simp only [stOf] at h
    by_cases hxi : x = i
    · by_cases hxj : x = j
      · omega
      · rw [if_pos hxi, if_neg hxj] at h
        subst hxi
        rw [ci] at h
        simp at h <;> omega
    · by_cases hxj : x = j
      · rw [if_neg hxi, if_pos hxj] at h
        subst hxj
        rw [cj] at h
        simp at h <;> omega
      · rw [if_neg hxi, if_neg hxj] at h
        exact stOf_inj r i j ((List.mem_cons.1 hi).resolve_left (fun e => hxi e.symm)) ((List.mem_cons.1 hj).resolve_left (fun e => hxj e.symm)) ci cj (by omega)
theorem stOf_le : ∀ (l : List Nat) (i : Nat), stOf ap ops l i ≤ nE ap ops l
  | [], _ => Nat.le_refl _
  | x :: r, i => by
    simp only [stOf, nE]
    split
    · omega
    · have := stOf_le r i; omega
theorem stOf_lt : ∀ (l : List Nat) (i : Nat), i ∈ l → isCl ap ops .e i = true → stOf ap ops l i < nE ap ops l
  | [], _, h, _ => by cases h
  | x :: r, i, hi, ci => by
    simp only [stOf, nE]
    split
    · rename_i h; subst h; rw [ci]; simp; try omega
    · rename_i h
      have := stOf_lt r i ((List.mem_cons.1 hi).resolve_left (fun e => h e.symm)) ci
      omega
theorem stOf_ex : ∀ (l : List Nat), l.Nodup → ∀ (m : Nat), m < nE ap ops l → ∃ i ∈ l, isCl ap ops .e i = true ∧ stOf ap ops l i = m
  | [], _, m, h => by simp [nE] at h
  | x :: r, hn, m, h => by
    simp only [nE] at h
    have hx : x ∉ r := (List.nodup_cons.1 hn).1
    by_cases cx : isCl ap ops .e x = true
    · cases m with
      | zero => exact ⟨x, by simp, cx, by simp [stOf]⟩
      | succ m =>
        rw [cx] at h
        simp at h
        obtain ⟨i, h1, h2, h3⟩ := stOf_ex r (List.nodup_cons.1 hn).2 m (by omega)
        have hne : x ≠ i := fun e => hx (e ▸ h1)
        exact ⟨i, by simp [h1], h2, by simp [stOf, hne, cx, h3] <;> omega⟩
    · have cx' : isCl ap ops .e x = false := by simpa using cx
      rw [cx'] at h
      simp at h
      obtain ⟨i, h1, h2, h3⟩ := stOf_ex r (List.nodup_cons.1 hn).2 m h
      have hne : x ≠ i := fun e => hx (e ▸ h1)
      exact ⟨i, by simp [h1], h2, by simp [stOf, hne, cx', h3]⟩

theorem isCl_iff {c : Cl} {i : Nat} {o : Oper} (h : ops[i]? = some o) : isCl ap ops c i = true ↔ cls ap o.op = c := by
  unfold isCl
  rw [h]; simp

/-! ### what was reckoned -/
/-- What is known of an operation that has been reckoned. -/
structure Fact (ap : AP) (cf : CallF) (lo : Nat) (ops : List Oper) (env : List AV) (base : Nat) (st : Nat → Nat) (vals : Nat → AV) (Fs : List AH) (i k : Nat) (o : Oper) (t : Bool) : Prop where
  ho : ops[i]? = some o
  ht : wantedM ops (envM ops env vals o) o = some t
  no : t = false → vals i = .tuple []
  q : t = true → cls ap o.op = .q ∨ cls ap o.op = .h → ∃ H r, aop ap lo (envM ops env vals o) H o.op = some r ∧ r.1 = vals i
  a : t = true → cls ap o.op = .a → ∃ r A F, aop ap lo (envM ops env vals o) (List.replicate (base + i) dead0) o.op = some r ∧ r.1 = vals i ∧ r.2[base + i]? = some A ∧ Fs[k]? = some F ∧ F[base + i]? = some A
  dead : cls ap o.op = .a → ∀ (j : Nat) (H : AH), j < k → Fs[j]? = some H → H[base + i]? = some dead0
  e : cls ap o.op = .e → ∃ F F' B, Fs[k]? = some F ∧ Fs[k + 1]? = some F' ∧ (t = true → aoper ap cf lo (envM ops env vals o) F o.op = some (vals i, B)) ∧ (t = false → B = F) ∧ F'.length = B.length ∧
    ∀ b, (∀ s, s < ops.length → isCl ap ops .a s = true → st s = k + 1 → b ≠ base + s) → F'[b]? = B[b]?

theorem envM_congr {env : List AV} {v v' : Nat → AV} {o : Oper} (h : ∀ e ∈ edges o, v e = v' e) : envM ops env v o = envM ops env v' o := by
  unfold envM
  apply List.ext_getElem?
  intro t
  simp only [List.getElem?_mapIdx]
  cases env[t]? with
  | none => rfl
  | some x =>
    simp only [Option.map_some]
    split
    · cases writer ops t with
      | none => rfl
      | some j =>
        simp only
        split
        · rename_i hj
          rw [h j (by simpa using hj)]
        · rfl
    · rfl
theorem isDeadB_eq {x : Option AB} (h : isDeadB x = true) : x = some dead0 := by
  unfold isDeadB at h
  split at h
  · rfl
  · cases h

structure Trace (ap : AP) (cf : CallF) (lo : Nat) (ops : List Oper) (env : List AV) (base : Nat) (st : Nat → Nat) (pre r : List Nat) (s sf : DS) : Prop where
  len : sf.prev.length = s.prev.length + nE ap ops r
  pre_ : ∀ (j : Nat) (H : AH), s.prev[j]? = some H → (sf.prev ++ [sf.cur])[j]? = some H
  cur : ∃ F, (sf.prev ++ [sf.cur])[s.prev.length]? = some F ∧ F.length = s.cur.length ∧ ∀ b, (∀ i ∈ r, isCl ap ops .a i = true → st i = s.prev.length → b ≠ base + i) → F[b]? = s.cur[b]?
  vals : ∀ i, i ∉ r → sf.vals i = s.vals i
  facts : ∀ i ∈ r, ∃ o t, Fact ap cf lo ops env base st sf.vals (sf.prev ++ [sf.cur]) i (st i) o t

theorem nE_append : ∀ (l m : List Nat), nE ap ops (l ++ m) = nE ap ops l + nE ap ops m
  | [], m => by simp [nE]
  | x :: r, m => by simp [nE, nE_append r m]; omega
theorem stOf_append : ∀ (l m : List Nat) (i : Nat), i ∉ l → stOf ap ops (l ++ m) i = nE ap ops l + stOf ap ops m i
  | [], m, i, _ => by simp [nE]
  | x :: r, m, i, h => by
    have h1 : x ≠ i := fun e => h (by simp [e])
    have h2 : i ∉ r := fun e => h (by simp [e])
    simp [stOf, nE, h1, stOf_append r m i h2]; omega

theorem trace {cf : CallF} {lo : Nat} {env : List AV} {base : Nat} (hO : OrdP ap ops ord anc) : ∀ (r pre : List Nat) (s sf : DS), pre ++ r = ord → s.prev.length = nE ap ops pre → drawGo ap cf lo ops env base r s = some sf →
    Trace ap cf lo ops env base (stOf ap ops ord) pre r s sf
  | [], pre, s, sf, hp, hl, h => by
    simp only [drawGo] at h
    cases h
    exact ⟨by simp [nE], fun j H e => by rw [List.getElem?_append_left (List.getElem?_eq_some_iff.1 e).1]; exact e, ⟨s.cur, by simp, rfl, fun b _ => rfl⟩, fun i _ => rfl, fun i hi => by cases hi⟩
  | i :: r, pre, s, sf, hp, hl, h => by
    simp only [drawGo] at h
    replace h := Option.bind_eq_some_iff.1 h
    obtain ⟨s1, h1, h2⟩ := h
    have hnd : (pre ++ i :: r).Nodup := by rw [hp]; exact hO.nodup
    have hipre : i ∉ pre := fun hm => (List.nodup_append.1 hnd).2.2 i hm i (by simp) rfl
    have hir : i ∉ r := (List.nodup_cons.1 (List.nodup_append.1 hnd).2.1).1
    have hst : stOf ap ops ord i = s.prev.length := by rw [← hp, stOf_append _ _ _ hipre, hl]; simp [stOf]
    unfold drawStep at h1
    replace h1 := Option.bind_eq_some_iff.1 h1
    obtain ⟨o, ho, h1⟩ := h1
    replace h1 := Option.bind_eq_some_iff.1 h1
    obtain ⟨t, ht, h1⟩ := h1
    -- what waits ahead
    have hedge : ∀ e ∈ edges o, e ≠ i ∧ e ∉ r := by
      intro e he
      obtain ⟨g1, g2⟩ := hO.edge i o ho e he
      have hmem := hO.all e g1
      have hidx : ord.idxOf i = pre.length := by
        rw [← hp, List.idxOf_append]
        simp [hipre]
      have hepre : e ∈ pre := by
        by_cases hx : e ∈ pre
        · exact hx
        · rw [← hp, List.idxOf_append] at g2
          rw [if_neg hx, hp] at g2
          omega
      exact ⟨fun x => hipre (x ▸ hepre), fun x => (List.nodup_append.1 hnd).2.2 e hepre e (by simp [x]) rfl⟩
    have hpre1 : (pre ++ [i]) ++ r = ord := by simpa using hp
    have hl1 : s1.prev.length = nE ap ops (pre ++ [i]) → Trace ap cf lo ops env base (stOf ap ops ord) (pre ++ [i]) r s1 sf := fun hl1 => trace hO r (pre ++ [i]) s1 sf hpre1 hl1 h2
    have hne : nE ap ops (pre ++ [i]) = s.prev.length + (if isCl ap ops .e i then 1 else 0) := by rw [nE_append, hl]; simp [nE]
    have menv : ∀ (T : Trace ap cf lo ops env base (stOf ap ops ord) (pre ++ [i]) r s1 sf), (∀ k, k ≠ i → s1.vals k = s.vals k) → envM ops env sf.vals o = envM ops env s.vals o := fun T hv => envM_congr fun e he => by
      obtain ⟨g1, g2⟩ := hedge e he
      rw [T.vals e g2, hv e g1]
    have notr : ∀ {x : Nat}, x ∉ i :: r → x ≠ i ∧ x ∉ r := fun h => ⟨fun e => h (by simp [e]), fun e => h (by simp [e])⟩
    -- nothing turned but the values
    have calm : ∀ (v : AV), s1 = ⟨setF s.vals i v, s.cur, s.prev⟩ → isCl ap ops .e i = false →
        (∀ (T : Trace ap cf lo ops env base (stOf ap ops ord) (pre ++ [i]) r s1 sf), sf.vals i = v → ∃ o t, Fact ap cf lo ops env base (stOf ap ops ord) sf.vals (sf.prev ++ [sf.cur]) i (stOf ap ops ord i) o t) →
        Trace ap cf lo ops env base (stOf ap ops ord) pre (i :: r) s sf := by
      intro v hs1 hce hf
      have T := hl1 (by rw [hs1, hne, hce]; simp)
      have hv : ∀ k, k ≠ i → s1.vals k = s.vals k := fun k hk => by rw [hs1]; simp [setF, hk]
      have hvi : sf.vals i = v := by rw [T.vals i hir, hs1]; simp [setF]
      refine ⟨?_, ?_, ?_, fun x hx => ?_, fun x hx => ?_⟩
      · rw [T.len, hs1]; simp [nE, hce]
      · intro j H hj
        exact T.pre_ j H (by rw [hs1]; exact hj)
      · obtain ⟨F, k1, k2, k3⟩ := T.cur
        rw [hs1] at k1 k2 k3
        exact ⟨F, k1, k2, fun b hb => k3 b fun x hx => hb x (by simp [hx])⟩
      · rw [T.vals x (notr hx).2, hv x (notr hx).1]
      · rcases List.mem_cons.1 hx with rfl | hx
        · exact hf T hvi
        · exact T.facts x hx
    have deads : (s.prev ++ [s.cur]).all (fun H => isDeadB H[base + i]?) = true → ∀ (T : Trace ap cf lo ops env base (stOf ap ops ord) (pre ++ [i]) r s1 sf), s1.prev = s.prev → ∀ (j : Nat) (H : AH), j < stOf ap ops ord i → (sf.prev ++ [sf.cur])[j]? = some H → H[base + i]? = some dead0 := by
      intro hd T hpv j H hj hH
      rw [hst] at hj
      have hs : s1.prev[j]? = some s.prev[j] := by rw [hpv]; simp [hj]
      have := T.pre_ j _ hs
      rw [this] at hH
      cases hH
      exact isDeadB_eq (List.all_eq_true.1 hd _ (by simp))
    -- one that may turn memory
    have turn : ∀ (v : AV) (B : AH), s1 = ⟨setF s.vals i v, B, s.prev ++ [s.cur]⟩ → isCl ap ops .e i = true →
        (∀ (T : Trace ap cf lo ops env base (stOf ap ops ord) (pre ++ [i]) r s1 sf) (F' : AH), sf.vals i = v → (sf.prev ++ [sf.cur])[stOf ap ops ord i]? = some s.cur → (sf.prev ++ [sf.cur])[stOf ap ops ord i + 1]? = some F' → F'.length = B.length →
          (∀ b, (∀ x, x < ops.length → isCl ap ops .a x = true → stOf ap ops ord x = stOf ap ops ord i + 1 → b ≠ base + x) → F'[b]? = B[b]?) → ∃ o t, Fact ap cf lo ops env base (stOf ap ops ord) sf.vals (sf.prev ++ [sf.cur]) i (stOf ap ops ord i) o t) →
        Trace ap cf lo ops env base (stOf ap ops ord) pre (i :: r) s sf := by
      intro v B hs1 hce hf
      have T := hl1 (by rw [hs1, hne, hce]; simp)
      have hv : ∀ k, k ≠ i → s1.vals k = s.vals k := fun k hk => by rw [hs1]; simp [setF, hk]
      have hvi : sf.vals i = v := by rw [T.vals i hir, hs1]; simp [setF]
      have hcur : (sf.prev ++ [sf.cur])[s.prev.length]? = some s.cur := T.pre_ _ _ (by rw [hs1]; simp)
      obtain ⟨F, k1, k2, k3⟩ := T.cur
      rw [hs1] at k1 k2 k3
      simp only [List.length_append, List.length_cons, List.length_nil, Nat.zero_add] at k1 k2 k3
      refine ⟨?_, ?_, ⟨s.cur, hcur, rfl, fun b _ => rfl⟩, fun x hx => ?_, fun x hx => ?_⟩
      · rw [T.len, hs1]; simp [nE, hce]; omega
      · intro j H hj
        exact T.pre_ j H (by rw [hs1, List.getElem?_append_left (List.getElem?_eq_some_iff.1 hj).1]; exact hj)
      · rw [T.vals x (notr hx).2, hv x (notr hx).1]
      · rcases List.mem_cons.1 hx with rfl | hx
        · refine hf T F hvi (by rw [hst]; exact hcur) (by rw [hst]; exact k1) k2 fun b hb => k3 b fun y hy hya hys => hb y (hO.lt y (by rw [← hp]; simp [hy])) hya (by rw [hst]; exact hys)
        · exact T.facts x hx
    have clof : ∀ {c : Cl}, cls ap o.op = c → isCl ap ops c i = true := fun h => (isCl_iff ho).2 h
    have clno : ∀ {c d : Cl}, cls ap o.op = c → c ≠ d → isCl ap ops d i = false := fun h hcd => by
      cases hx : isCl ap ops _ i with
      | false => rfl
      | true => exact absurd (h.symm.trans ((isCl_iff ho).1 hx)) hcd
    cases t with
    | false =>
      simp only [Bool.false_eq_true, if_false] at h1
      split at h1
      · rename_i hce
        cases h1
        refine turn (.tuple []) s.cur rfl hce fun T F' hvi hc hF' hlen hext => ?_
        have hm := menv T (fun k hk => by simp [setF, hk])
        refine ⟨o, false, ho, by rw [hm]; exact ht, fun _ => hvi, (fun h => by cases h), (fun h => by cases h), (fun h => absurd (h.symm.trans ((isCl_iff ho).1 hce)) (by simp)), fun _ => ⟨s.cur, F', s.cur, hc, hF', (fun h => by cases h), fun _ => rfl, hlen, hext⟩⟩
      · rename_i hce
        have hce : isCl ap ops .e i = false := by simpa using hce
        split at h1
        · rename_i hca
          split at h1
          · rename_i hd
            cases h1
            refine calm (.tuple []) rfl hce fun T hvi => ?_
            have hm := menv T (fun k hk => by simp [setF, hk])
            exact ⟨o, false, ho, by rw [hm]; exact ht, fun _ => hvi, (fun h => by cases h), (fun h => by cases h), fun _ => deads hd T rfl, fun h => absurd ((isCl_iff ho).2 h) (by simp [hce])⟩
          · cases h1
        · rename_i hca
          cases h1
          refine calm (.tuple []) rfl hce fun T hvi => ?_
          have hm := menv T (fun k hk => by simp [setF, hk])
          exact ⟨o, false, ho, by rw [hm]; exact ht, fun _ => hvi, (fun h => by cases h), (fun h => by cases h), fun h => absurd ((isCl_iff ho).2 h) hca, fun h => absurd ((isCl_iff ho).2 h) (by simp [hce])⟩
    | true =>
      simp only [if_true] at h1
      cases hc : cls ap o.op with
      | q =>
        rw [hc] at h1
        simp only at h1
        obtain ⟨r1, e1, e2⟩ := Option.map_eq_some_iff.1 h1
        refine calm r1.1 e2.symm (clno hc (by simp)) fun T hvi => ?_
        have hm := menv T (fun k hk => by rw [← e2]; simp [setF, hk])
        exact ⟨o, true, ho, by rw [hm]; exact ht, (fun h => by cases h), fun _ _ => ⟨s.cur, r1, by rw [hm]; exact e1, hvi.symm⟩, (fun _ h => by rw [hc] at h; cases h), (fun h => by rw [hc] at h; cases h), fun h => by rw [hc] at h; cases h⟩
      | h =>
        rw [hc] at h1
        simp only at h1
        obtain ⟨r1, e1, e2⟩ := Option.map_eq_some_iff.1 h1
        refine calm r1.1 e2.symm (clno hc (by simp)) fun T hvi => ?_
        have hm := menv T (fun k hk => by rw [← e2]; simp [setF, hk])
        exact ⟨o, true, ho, by rw [hm]; exact ht, (fun h => by cases h), fun _ _ => ⟨s.cur, r1, by rw [hm]; exact e1, hvi.symm⟩, (fun _ h => by rw [hc] at h; cases h), (fun h => by rw [hc] at h; cases h), fun h => by rw [hc] at h; cases h⟩
      | e =>
        rw [hc] at h1
        simp only at h1
        obtain ⟨r1, e1, e2⟩ := Option.map_eq_some_iff.1 h1
        refine turn r1.1 r1.2 e2.symm (clof hc) fun T F' hvi hcu hF' hlen hext => ?_
        have hm := menv T (fun k hk => by rw [← e2]; simp [setF, hk])
        refine ⟨o, true, ho, by rw [hm]; exact ht, (fun h => by cases h), (fun _ h => by rw [hc] at h; rcases h with h | h <;> cases h), (fun _ h => by rw [hc] at h; cases h), (fun h => by rw [hc] at h; cases h), fun _ => ⟨s.cur, F', r1.2, hcu, hF', fun _ => by rw [hm, hvi]; exact e1, (fun h => by cases h), hlen, hext⟩⟩
      | a =>
        rw [hc] at h1
        simp only at h1
        replace h1 := Option.bind_eq_some_iff.1 h1
        obtain ⟨r1, e1, h1⟩ := h1
        replace h1 := Option.bind_eq_some_iff.1 h1
        obtain ⟨A, eA, h1⟩ := h1
        split at h1
        · rename_i hd
          have hs1 := (Option.some.inj h1).symm
          have hce : isCl ap ops .e i = false := clno hc (by simp)
          have T := hl1 (by rw [hs1, hne, hce]; simp)
          have hv : ∀ k, k ≠ i → s1.vals k = s.vals k := fun k hk => by rw [hs1]; simp [setF, hk]
          have hvi : sf.vals i = r1.1 := by rw [T.vals i hir, hs1]; simp [setF]
          have hm := menv T hv
          have hcd : s.cur[base + i]? = some dead0 := isDeadB_eq (List.all_eq_true.1 hd s.cur (by simp))
          have hlt : base + i < s.cur.length := (List.getElem?_eq_some_iff.1 hcd).1
          obtain ⟨F, k1, k2, k3⟩ := T.cur
          rw [hs1] at k1 k2 k3
          simp only at k1 k2 k3
          refine ⟨?_, ?_, ⟨F, k1, by rw [k2]; simp, fun b hb => ?_⟩, fun x hx => ?_, fun x hx => ?_⟩
          · rw [T.len, hs1]; simp [nE, hce]
          · intro j H hj
            exact T.pre_ j H (by rw [hs1]; exact hj)
          · have hbi : b ≠ base + i := hb i (by simp) (clof hc) hst
            rw [k3 b fun x hx => hb x (by simp [hx]), List.getElem?_set_ne (fun e => hbi e.symm)]
          · rw [T.vals x (notr hx).2, hv x (notr hx).1]
          · rcases List.mem_cons.1 hx with rfl | hx
            · refine ⟨o, true, ho, by rw [hm]; exact ht, (fun h => by cases h), (fun _ h => by rw [hc] at h; rcases h with h | h <;> cases h), fun _ _ => ⟨r1, A, F, by rw [hm]; exact e1, hvi.symm, eA, by rw [hst]; exact k1, ?_⟩, fun _ => deads hd T (by rw [hs1]), fun h => by rw [hc] at h; cases h⟩
              rw [k3 (base + x) fun y hy _ _ e => hir (by have : y = x := by omega
                                                          exact this ▸ hy)]
              exact List.getElem?_set_self hlt
            · exact T.facts x hx
        · cases h1
end
end Go.Ab
