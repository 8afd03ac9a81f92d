import Derived.Test.YtndgfpknegoleaaC6
/-! Configs: what their bytes say. -/
set_option linter.unusedVariables false
set_option linter.unusedSimpArgs false
set_option maxHeartbeats 4000000
set_option maxRecDepth 100000
namespace Go.Proofs.Ytndgfpknegoleaa.T
open Go Go.Ab
theorem encs_cons (n : Int) (l : List Int) : encs (n :: l) = enc n ++ encs l := by simp [encs]
theorem encs_nil_iff {l : List Int} (h : encs l = []) : l = [] := by
  cases l with
  | nil => rfl
  | cons n l =>
    rw [encs_cons] at h
    have := (enc_len n).1
    simp at h
    rw [h.1] at this
    simp at this
/-- Which rows of numbers have just these bytes. -/
def Says (bs l : List Int) (at_ : Nat) : Prop := ∀ L, (∀ n ∈ L, I64 n) → encs L = bs → ∃ M, L = l ++ M ∧ encs M = bs.drop at_
theorem says_0 (bs : List Int) : Says bs [] 0 := fun L _ e => ⟨L, by simp, by simpa using e⟩
theorem says_some {bs l : List Int} {at_ k : Nat} {n : Int} (st : Bool) (h : Says bs l at_) (hr : rdn st (bs.drop at_) 0 0 = some (n, k)) : Says bs (l ++ [n]) (at_ + k) := fun L hL e => by
  obtain ⟨M, h1, h2⟩ := h L hL e
  cases M with
  | nil =>
    rw [← h2] at hr
    cases hr
  | cons m M =>
    rw [← h2, encs_cons, rdn_one st (hL m (by rw [h1]; simp))] at hr
    simp only [Option.some.injEq, Prod.mk.injEq] at hr
    refine ⟨M, by rw [h1, ← hr.1]; simp, ?_⟩
    rw [← List.drop_drop, ← h2, encs_cons, ← hr.2, List.drop_left' rfl]
theorem says_none {bs l : List Int} {at_ : Nat} (st : Bool) (h : Says bs l at_) (ha : at_ < bs.length) (hr : rdn st (bs.drop at_) 0 0 = none) : ∀ L, (∀ n ∈ L, I64 n) → encs L ≠ bs := fun L hL e => by
  obtain ⟨M, h1, h2⟩ := h L hL e
  cases M with
  | nil =>
    have := congrArg List.length h2
    simp [encs] at this
    omega
  | cons m M =>
    rw [← h2, encs_cons, rdn_one st (hL m (by rw [h1]; simp))] at hr
    cases hr
theorem says_end {bs l : List Int} (h : Says bs l bs.length) : ∀ L, (∀ n ∈ L, I64 n) → encs L = bs → L = l := fun L hL e => by
  obtain ⟨M, h1, h2⟩ := h L hL e
  rw [List.drop_length] at h2
  rw [h1, encs_nil_iff h2]
  simp
/-- The instruments that numbers say. -/
def insOf (n : Nat) (l : List Int) : List I4 := (List.range n).map fun i => ⟨l.getD (1 + 4 * i) 0, l.getD (2 + 4 * i) 0, l.getD (3 + 4 * i) 0, l.getD (4 + 4 * i) 0⟩
@[simp] theorem insOf_len {n : Nat} {l : List Int} : (insOf n l).length = n := by simp [insOf]
theorem insOf_succ (n : Nat) (l : List Int) : insOf (n + 1) l = insOf n l ++ [⟨l.getD (1 + 4 * n) 0, l.getD (2 + 4 * n) 0, l.getD (3 + 4 * n) 0, l.getD (4 + 4 * n) 0⟩] := by
  simp [insOf, List.range_succ]
def cfOf (n : Nat) (l : List Int) : Cf := ⟨insOf n l, l.getD (4 * n + 1) 0, l.getD (4 * n + 2) 0, l.getD (4 * n + 3) 0, l.getD (4 * n + 4) 0, l.getD (4 * n + 5) 0, l.getD (4 * n + 6) 0⟩
theorem flatI_get {l : List I4} {i j : Nat} (hi : i < l.length) (hj : j < 4) : (flatI l).getD (4 * i + j) 0 = l[i].ns.getD j 0 := by
  have := flatten_get (sz := 4) (by omega) (l.map I4.ns) (by simp only [List.mem_map]; rintro _ ⟨a, _, rfl⟩; rfl) i j hj
  rw [List.getD_eq_getElem?_getD, show 4 * i + j = i * 4 + j by omega]
  unfold flatI
  rw [this, List.getElem?_map, List.getElem?_eq_getElem hi]
  rfl
theorem flat_get0 (c : Cf) : (flat c).getD 0 0 = c.ins.length := by simp [flat]
theorem flat_getI {c : Cf} {m : Nat} (h : m < 4 * c.ins.length) : (flat c).getD (m + 1) 0 = (flatI c.ins).getD m 0 := by
  simp only [flat, List.getD_eq_getElem?_getD, List.cons_append, List.getElem?_cons_succ]
  rw [List.getElem?_append_left (by simpa using h)]
theorem flat_getE {c : Cf} {m : Nat} : (flat c).getD (4 * c.ins.length + m + 1) 0 = c.ends.getD m 0 := by
  simp only [flat, List.getD_eq_getElem?_getD, List.cons_append, List.getElem?_cons_succ]
  rw [List.getElem?_append_right (by simp)]
  simp
theorem cfOf_flat (c : Cf) : cfOf c.ins.length (flat c) = c := by
  have hi : insOf c.ins.length (flat c) = c.ins := by
    refine List.ext_getElem (by simp) fun i h1 h2 => ?_
    have e : ∀ j, j < 4 → (flat c).getD (j + 1 + 4 * i) 0 = c.ins[i].ns.getD j 0 := fun j hj => by
      rw [show j + 1 + 4 * i = (4 * i + j) + 1 by omega, flat_getI (by omega), flatI_get h2 hj]
    have e0 := e 0 (by omega)
    have e1 := e 1 (by omega)
    have e2 := e 2 (by omega)
    have e3 := e 3 (by omega)
    simp only [insOf, List.getElem_map, List.getElem_range]
    rw [e0, e1, e2, e3]
    rfl
  unfold cfOf
  have e : ∀ m, (flat c).getD (4 * c.ins.length + (m + 1)) 0 = c.ends.getD m 0 := fun m => flat_getE
  rw [hi, e 0, e 1, e 2, e 3, e 4, e 5]
  rfl
theorem flat_cfOf {n : Nat} {l : List Int} (hl : l.length = 4 * n + 7) (h0 : l.getD 0 0 = n) : flat (cfOf n l) = l := by
  have hn : (cfOf n l).ins.length = n := insOf_len
  refine eq_getD (by rw [flat_len, hn, hl]) fun j hj => ?_
  cases j with
  | zero => rw [flat_get0, hn, h0]
  | succ m =>
    by_cases hm : m < 4 * n
    · have hq : m / 4 < (cfOf n l).ins.length := by rw [hn]; omega
      rw [flat_getI (by rw [hn]; exact hm), show m = 4 * (m / 4) + m % 4 by omega, flatI_get hq (Nat.mod_lt _ (by omega))]
      have hg : (cfOf n l).ins[m / 4] = ⟨l.getD (1 + 4 * (m / 4)) 0, l.getD (2 + 4 * (m / 4)) 0, l.getD (3 + 4 * (m / 4)) 0, l.getD (4 + 4 * (m / 4)) 0⟩ := by
        simp only [cfOf, insOf, List.getElem_map, List.getElem_range]
      rw [hg]
      have : m % 4 = 0 ∨ m % 4 = 1 ∨ m % 4 = 2 ∨ m % 4 = 3 := by omega
      rcases this with e | e | e | e <;> rw [e]
      · exact congrArg (fun q => l.getD q 0) (show 1 + 4 * (m / 4) = 4 * (m / 4) + 0 + 1 by omega)
      · exact congrArg (fun q => l.getD q 0) (show 2 + 4 * (m / 4) = 4 * (m / 4) + 1 + 1 by omega)
      · exact congrArg (fun q => l.getD q 0) (show 3 + 4 * (m / 4) = 4 * (m / 4) + 2 + 1 by omega)
      · exact congrArg (fun q => l.getD q 0) (show 4 + 4 * (m / 4) = 4 * (m / 4) + 3 + 1 by omega)
    · obtain ⟨q, hq⟩ : ∃ q, m = 4 * n + q := ⟨m - 4 * n, by omega⟩
      have := flat_getE (c := cfOf n l) (m := q)
      rw [hn] at this
      rw [hq, this]
      have hq6 : q < 6 := by omega
      match q, hq6 with
      | 0, _ => rfl
      | 1, _ => rfl
      | 2, _ => rfl
      | 3, _ => rfl
      | 4, _ => rfl
      | 5, _ => rfl
theorem encs_inj : ∀ {a b : List Int}, (∀ n ∈ a, I64 n) → (∀ n ∈ b, I64 n) → encs a = encs b → a = b
  | [], b, _, _, h => (encs_nil_iff h.symm).symm
  | x :: a, b, ha, hb, h => by
    cases b with
    | nil => exact encs_nil_iff h
    | cons y b =>
      rw [encs_cons, encs_cons] at h
      have h1 := rdn_one true (ha x (by simp)) (encs a)
      rw [h, rdn_one true (hb y (by simp))] at h1
      simp only [Option.some.injEq, Prod.mk.injEq] at h1
      rw [h1.1] at h ⊢
      rw [encs_inj (fun n hn => ha n (by simp [hn])) (fun n hn => hb n (by simp [hn])) (List.append_cancel_left h)]
theorem putB_inj {c d : Cf} (hc : rightC c = true) (fc : FitC c) (hd : rightC d = true) (fd : FitC d) (h : putB c = putB d) : c = d := by
  have e := encs_inj (flat_i64 hc fc) (flat_i64 hd fd) h
  have hl := congrArg List.length e
  simp only [flat_len] at hl
  rw [← cfOf_flat c, ← cfOf_flat d, e]
  congr 1
  omega
def Cf.zero : Cf := ⟨[], 0, 0, 0, 0, 0, 0⟩
/-- What reading of bytes tells. -/
def ReadsC (bs : List Int) (H : AH) (r : AV) : Prop :=
  (∃ v c, r = .tuple [.agg (Cf.cs c v), .int .i64 0] ∧ SI H v c.ins ∧ rightC c = true ∧ FitC c ∧ putB c = bs) ∨
  (r = .tuple [.agg (Cf.cs .zero (.slice none 0 (some 0) 0)), .int .i64 13] ∧ ∀ c, rightC c = true → FitC c → putB c ≠ bs)
theorem got_some {bs : List Int} (h : (got false bs).2 ≠ 0) : rdn false bs 0 0 = some (got false bs) := by
  unfold got at h ⊢
  cases e : rdn false bs 0 0 with
  | none => rw [e] at h; simp at h
  | some r => simp
theorem got_none {bs : List Int} (h : (got false bs).2 = 0) : rdn false bs 0 0 = none := by
  cases e : rdn false bs 0 0 with
  | none => rfl
  | some r =>
    obtain ⟨v, k⟩ := r
    have := (rdn_far false bs 0 0 v k e (by omega) (by decide)).1
    unfold got at h
    rw [e] at h
    simp at h
    omega
end Go.Proofs.Ytndgfpknegoleaa.T
