import Derived.Test.YtobfodegdbfhdaaGR123
import Derived.WalkKit
section
/-! Rows of members, of accounts. -/
set_option linter.unusedVariables false
set_option linter.unusedSimpArgs false
set_option maxHeartbeats 4000000
set_option maxRecDepth 100000
namespace Go.Proofs.Ytobfodegdbfhdaa.T.Ro
open Go Go.Ab
structure Mb where
  id : Int
  st : Int
  deriving DecidableEq
def Mb.cs (o : Mb) : List AV := [.int .i64 o.id, .int .i64 o.st]
structure Ac where
  id : Int
  mem : Int
  kind : Int
  lim : Int
  deriving DecidableEq
def Ac.cs (o : Ac) : List AV := [.int .i64 o.id, .int .i64 o.mem, .int .i64 o.kind, .int .i64 o.lim]
section
variable {k p n sz : Nat} {H : AH}
/-- A row of one's own, or one of no room at all. -/
inductive Og (H : AH) (sz : Nat) : AV → List AV → Prop
  | mine {v : AV} {cs : List AV} (h : Mine H sz v cs) : Og H sz v cs
  | zero {b : Nat} (h : rowOf H b = some []) : Og H sz (.slice (some (b, 0)) 0 (some 0) sz) []
theorem Og.chg {v : AV} {cs : List AV} {F : List Nat} {H' : AH} (h : Og H sz v cs) (c : Chg F H H') (hF : ∀ i ∈ blk v, i ∉ F) : Og H' sz v cs := by
  cases h with
  | mine h => exact .mine (h.chg c hF)
  | zero h => exact .zero (c.row h (hF _ (by simp)))
theorem Og.sl {v : AV} {cs : List AV} (h : Og H sz v cs) (hz : 0 < sz) : SL H sz v cs := by
  cases h with
  | mine h => exact h.sl
  | zero h => exact SL.cap0 hz h (by simp)
theorem Og.append {by_ : Nat} {v x : AV} {cs xs : List AV} (h : Og H sz v cs) (hx : SL H sz x xs) (hz : 0 < sz) (hb : 0 < by_) (h1 : xs.all AV.one = true) (hr : (cs.length + xs.length) * by_ ≤ room) :
    Hx (aappend 0 H sz by_ v x) fun r => Og r.2 sz r.1 (cs ++ xs) ∧ Chg (blk v) H r.2 ∧ ∀ i ∈ blk r.1, i ∈ blk v ∨ H.length ≤ i := by
  cases h with
  | mine h => exact (h.append hx hz hb h1 hr).mono fun r ⟨a, b, c⟩ => ⟨.mine a, b, c⟩
  | @zero b h =>
    obtain ⟨a, n, c, s, rfl, hn⟩ := hx.form
    have hf := hx.first hn
    have hs := hx.sz_ok
    have hs0 : szOk sz (.slice (some (b, 0)) 0 (some 0) sz) = true := by simp [szOk]
    rw [aappend_eq, hs, hs0]
    simp only [lenOf, Option.bind_some, hf, h1, Bool.true_eq_false, if_false, aappendC, h, decide_eq_true hz, decide_eq_true hb, Bool.and_self, if_true, tag_eq]
    by_cases h0 : n = 0
    · subst h0
      have : xs = [] := by simpa using hn.symm
      subst this
      simp
      exact ⟨.zero h, .refl⟩
    · have hroom : n * by_ ≤ room := by
        refine Nat.le_trans (Nat.mul_le_mul_right by_ ?_) hr
        rw [← hn]
        exact Nat.le_trans (Nat.le_mul_of_pos_right _ hz) (Nat.le_add_left _ _)
      simp [h0, hroom]
      refine ⟨.mine ?_, Chg.app _ _⟩
      have hk := Mine.new (H := H) (X := H ++ [.cells xs .rw]) (l := xs) (n := n) (c := none) hz rfl (by omega) (by simp)
      rw [hn, List.take_length] at hk
      exact hk

end
section
variable {k : Nat} {H : AH}
def mbsC (l : List Mb) : List AV := (l.map Mb.cs).flatten
theorem csMb {l : List Mb} : ∀ x ∈ l.map Mb.cs, x.length = 2 := by simp only [List.mem_map]; rintro _ ⟨a, _, rfl⟩; rfl
@[simp] theorem mbsC_len {l : List Mb} : (mbsC l).length = 2 * l.length := by
  unfold mbsC
  rw [flatten_len (sz := 2) _ csMb, List.length_map, Nat.mul_comm]
theorem mbsC_app (a b : List Mb) : mbsC (a ++ b) = mbsC a ++ mbsC b := by simp [mbsC]
theorem mbsC_snoc (a : List Mb) (x : Mb) : mbsC (a ++ [x]) = mbsC a ++ x.cs := by simp [mbsC]
theorem mbsC_one (l : List Mb) : (mbsC l).all AV.one = true := by
  unfold mbsC
  rw [List.all_eq_true]
  intro x hx
  obtain ⟨y, hy, hx⟩ := List.mem_flatten.1 hx
  obtain ⟨a, _, rfl⟩ := List.mem_map.1 hy
  simp [Mb.cs] at hx
  rcases hx with rfl | rfl <;> rfl
theorem mbsC_refs (l : List Mb) : refsL (mbsC l) = [] := by
  induction l with
  | nil => rfl
  | cons a l ih => rw [show mbsC (a :: l) = a.cs ++ mbsC l from rfl]; simp [Mb.cs, ih]
abbrev SM (H : AH) (v : AV) (l : List Mb) : Prop := SL H 2 v (mbsC l)
theorem SM.form {v : AV} {l : List Mb} (h : SM H v l) : ∃ a c s, v = .slice a l.length c s := by
  have := sle_form (es := l.map Mb.cs) h csMb (by omega)
  simpa using this
theorem SM.all {v : AV} {l : List Mb} (h : SM H v l) (h0 : l ≠ []) : ∃ b o c r, v = .slice (some (b, o)) l.length c 2 ∧ rowOf H b = some r ∧
    ∀ i (hi : i < l.length), o + i * 2 + 2 ≤ r.length ∧ (r.drop (o + i * 2)).take 2 = l[i].cs ∧ ∀ j, j < 2 → r[o + i * 2 + j]? = l[i].cs[j]? := by
  obtain ⟨b, o, c, r, rfl, g1, g2⟩ := sle_all (es := l.map Mb.cs) h csMb (by omega) (by simpa using h0)
  exact ⟨b, o, c, r, by simp, g1, fun i hi => g2 i _ (by simp [hi])⟩
theorem mbsC_take (l : List Mb) (i : Nat) : (mbsC l).take (i * 2) = mbsC (l.take i) := by
  by_cases hi : i ≤ l.length
  · conv => lhs; rw [← List.take_append_drop i l, mbsC_app]
    rw [List.take_left' (by rw [mbsC_len, List.length_take]; omega)]
  · rw [List.take_of_length_le (by rw [mbsC_len]; omega), List.take_of_length_le (by omega)]
theorem mbsC_drop (l : List Mb) (i : Nat) : (mbsC l).drop (i * 2) = mbsC (l.drop i) := by
  by_cases hi : i ≤ l.length
  · conv => lhs; rw [← List.take_append_drop i l, mbsC_app]
    rw [List.drop_left' (by rw [mbsC_len, List.length_take]; omega)]
  · rw [List.drop_eq_nil_of_le (by rw [mbsC_len]; omega), List.drop_eq_nil_of_le (by omega)]
    rfl
theorem eqMb {p q : Mb} : eqF ap 0 [(0, 3), (1, 3)] [AV.int .i64 p.id, AV.int .i64 p.st] [AV.int .i64 q.id, AV.int .i64 q.st] = some (decide (p = q)) := by
  obtain ⟨_, _⟩ := p
  obtain ⟨_, _⟩ := q
  simp [eqF, eqC]
  rw [Bool.eq_iff_iff]
  simp
theorem mbs_eq {v w : AV} {l m : List Mb} (ha : SM H v l) (hb : SM H w m) (hl : l.length ≤ 1000000) (hl2 : m.length ≤ 1000000) (hk : l.length + 10 < k) : callA ap k (.func 25 [] []) [v, w] 0 H = some (.bool (decide (l = m)), H) := by
  obtain ⟨k, rfl⟩ : ∃ k', k = k' + 1 := ⟨k - 1, by omega⟩
  refine Hx.eqn ?_
  rw [hx_gg fn25 rfl, b25]
  obtain ⟨x, c, s, rfl⟩ := SM.form ha
  obtain ⟨x', c', s', rfl⟩ := SM.form hb
  by_cases hn : l.length = m.length
  · simp [hn]
    refine hx_up (fun i s1 => ∃ H', s1 = ⟨sp 26 [(0, .slice x m.length c s), (1, .slice x' m.length c' s'), (5, .int .i64 i)], H', []⟩ ∧ Chg [] H H' ∧ ∀ j (h1 : j < l.length) (h2 : j < m.length), j < i → l[j] = m[j]) m.length ?_ ?_ (by omega) ⟨H, rfl, .refl, by simp⟩
    · rintro i _ hi ⟨H', rfl, c1, hq⟩
      have hw : IntKind.i64.wrap ((i : Int) + 1) = ((i + 1 : Nat) : Int) := by rw [wrap_i64 (by omega) (by omega)]; omega
      simp [hi]
      refine hx_drawn dc25_6 fun H1 c2 _ _ => ?_
      have hi' : i < l.length := hn ▸ hi
      have c3 := c1.tr c2
      obtain ⟨b0, o0, c0, r0, e0, g0, gg⟩ := SM.all (ha.keep c3) (by intro h; simp [h] at hi')
      obtain ⟨b1, o1, c1', r1, e1, g2, gg'⟩ := SM.all (hb.keep c3) (by intro h; simp [h] at hi)
      obtain ⟨ga, g1, -⟩ := gg i hi'
      obtain ⟨gb, g3, -⟩ := gg' i hi
      obtain ⟨z1, z2, z3, z4⟩ := AV.slice.inj e0
      subst z1 z3 z4
      obtain ⟨z1, z2, z3, z4⟩ := AV.slice.inj e1
      subst z1 z3 z4
      have hup : l[i] = m[i] → ∀ j (h1 : j < l.length) (h2 : j < m.length), j < i + 1 → l[j] = m[j] := fun he j h1 h2 hj => by
        rcases Nat.lt_succ_iff_lt_or_eq.1 hj with hj | rfl
        · exact hq j h1 h2 hj
        · exact he
      have hne : ¬ l[i] = m[i] → ¬ l = m := fun h e => h (by subst e; rfl)
      generalize l[i] = p at *
      generalize m[i] = q at *
      simp only [Mb.cs] at g1 g3
      by_cases he : p = q
      · subst he
        simp [d25_6, hi, g0, g1, g2, g3, ga, gb, hw, eqV, eqMb]
        exact ⟨H1, rfl, c3, hup rfl⟩
      · simp [d25_6, hi, g0, g1, g2, g3, ga, gb, hw, hne he, eqV, eqMb, he, gcF_flat, c3]
    · rintro _ ⟨H', rfl, c1, hq⟩
      have he : l = m := List.ext_getElem hn fun j h1 h2 => hq j h1 h2 h2
      simp [he, gcF_flat, c1]
  · have hne : ¬ l = m := fun e => hn (by rw [e])
    have hn' : ¬ (l.length : Int) = (m.length : Int) := by omega
    simp [hn', hne]
/-- A row of one's own, grown by slices.Insert. -/
def OwnMb (H : AH) (w : AV) (l : List Mb) : Prop := (∃ c s, w = .slice none 0 c s ∧ l = []) ∨ ∃ b, w = .slice (some (b, 0)) l.length none 2 ∧ H[b]? = some (.cells (mbsC l) .rw)
theorem OwnMb.so {w : AV} {l : List Mb} (h : OwnMb H w l) : SM H w l := by
  rcases h with ⟨c, s, rfl, rfl⟩ | ⟨b, rfl, h⟩
  · exact .nil _ _
  · exact SL.mk (by omega) (rowOf_rw h) (by simp; omega) (by simp)
theorem OwnMb.chg {F : List Nat} {H' : AH} {w : AV} {l : List Mb} (h : OwnMb H w l) (c : Chg F H H') (hF : ∀ i ∈ blk w, i ∉ F) : OwnMb H' w l := by
  rcases h with h | ⟨b, rfl, h⟩
  · exact .inl h
  · exact .inr ⟨b, rfl, c.get h (hF b (by simp))⟩
theorem call_insMb {args : List AV} {lo : Nat} : callA ap (k + 1) (.func 34 [] []) args lo H = insX 2 args lo H := by
  have hp : ap.prim 34 = some (insX 2) := rfl
  simp only [callA, hp, List.nil_append, List.append_nil]
theorem insertMb_ok {w : AV} {own : List Mb} {bv i : Nat} {o : Mb} (h : OwnMb H w own) (hv : H[bv]? = some (.cells o.cs .pl)) (hi : i ≤ own.length) (hl : own.length ≤ 1000000) (hb : bv ∉ blk w) :
    ∃ w' H', callA ap (k + 1) (.func 34 [] []) [w, .int .i64 i, .slice (some (bv, 0)) 1 (some 1) 2] 0 H = some (w', H') ∧ OwnMb H' w' (own.take i ++ o :: own.drop i) ∧ Chg (blk w) H H' ∧ (∀ b ∈ blk w', H.length ≤ b) := by
  rw [call_insMb]
  unfold insX
  simp only [hv]
  rw [if_pos (by simp [Mb.cs])]
  rcases h with ⟨c, s, rfl, rfl⟩ | ⟨b, rfl, h⟩
  · have : i = 0 := by simpa using hi
    subst this
    refine ⟨.slice (some (H.length, 0)) 1 none 2, H ++ [.cells o.cs .rw], ?_, .inr ⟨H.length, by simp, by simp [mbsC]⟩, .app _ _, by simp⟩
    simp
  · have hbv : bv ≠ b := fun e => hb (by simp [e])
    simp only [h]
    rw [if_pos ⟨⟨trivial, by omega, by simpa using hi, by simp; omega⟩, by
      rw [List.take_of_length_le (by simp; omega)]; exact mbsC_one own, mbsC_refs own, hl, hbv⟩]
    have hlt := lt_of_get h
    refine ⟨_, _, rfl, .inr ⟨H.length, ?_, ?_⟩, ?_, by simp⟩
    · have : (own.take i ++ o :: own.drop i).length = own.length + 1 := by simp; omega
      rw [this]
    · rw [List.getElem?_append_right (by simp)]
      have e1 : newR 2 own.length i (mbsC own) o.cs = mbsC (own.take i ++ o :: own.drop i) := by
        rw [newR, mbsC_take, List.take_of_length_le (by simp; omega : (mbsC own).length ≤ own.length * 2), mbsC_drop, mbsC_app, List.append_assoc]
        rfl
      simp [e1]
    · exact ((Chg.set H b _).trans (.app (F := []) _ _) (by simp)).mono (by simp)
theorem appendMb0 {b : Nat} {x : AV} {l : List Mb} (hr : rowOf H b = some []) (h : SM H x l) (hl : l.length ≤ 1000000) : aappend 0 H 2 16 (.slice (some (b, 0)) 0 (some 0) 2) x =
    some (if l = [] then (.slice (some (b, 0)) 0 (some 0) 2, H) else (.slice (some (H.length, 0)) l.length none 2, H ++ [.cells (mbsC l) .rw])) := by
  obtain ⟨a, c, s, rfl⟩ := h.form
  have hf := h.first (n := l.length) (by simp; omega)
  have hs := h.sz_ok
  have hs0 : szOk 2 (.slice (some (b, 0)) 0 (some 0) 2) = true := rfl
  rw [aappend_eq, hs, hs0]
  simp only [lenOf, Option.bind_some, hf, mbsC_one l, Bool.true_eq_false, if_false, aappendC, hr]
  by_cases h0 : l = []
  · subst h0
    simp
  · have : l.length ≠ 0 := fun h => h0 (List.length_eq_zero_iff.1 h)
    simp [h0, room]
    omega
theorem cloneMb_ok {v : AV} {l : List Mb} (h : SM H v l) (hl : l.length ≤ 1000000) :
    Hx (callA ap (k + 1) (.func 35 [] []) [v] 0 H) fun r => Chg [] H r.2 ∧ Og r.2 2 r.1 (mbsC l) ∧ ∀ i ∈ blk r.1, H.length ≤ i := by
  rw [hx_go fn35 rfl, b35]
  obtain ⟨a, c, s, rfl⟩ := h.form
  cases a with
  | none =>
    have h0 : l = [] := by
      by_cases h0 : l = []
      · exact h0
      · obtain ⟨b, o, c', r, e, -⟩ := SM.all h h0
        cases e
    subst h0
    simp [eqV]
    exact ⟨.refl, .mine (.nil _ _)⟩
  | some p =>
    have hap := appendMb0 (H := H ++ [.cells [] .pl]) (b := H.length) (by simp [rowOf]) (h.keep (.app _ _)) hl
    by_cases h0 : l = []
    · subst h0
      rw [if_pos rfl] at hap
      simp only [List.length_nil] at hap
      simp [eqV, hap]
      exact ⟨.app _ _, .zero (by simp [rowOf])⟩
    · rw [if_neg h0] at hap
      simp [eqV, hap]
      exact ⟨.app _ _, .mine (.row _ l.length none (mbsC l) _ (by omega) (by simp) (by simp; omega) (List.take_of_length_le (by simp; omega)) (by simp))⟩
end
section
variable {k : Nat} {H : AH}
def acsC (l : List Ac) : List AV := (l.map Ac.cs).flatten
theorem csAc {l : List Ac} : ∀ x ∈ l.map Ac.cs, x.length = 4 := by simp only [List.mem_map]; rintro _ ⟨a, _, rfl⟩; rfl
@[simp] theorem acsC_len {l : List Ac} : (acsC l).length = 4 * l.length := by
  unfold acsC
  rw [flatten_len (sz := 4) _ csAc, List.length_map, Nat.mul_comm]
theorem acsC_app (a b : List Ac) : acsC (a ++ b) = acsC a ++ acsC b := by simp [acsC]
theorem acsC_snoc (a : List Ac) (x : Ac) : acsC (a ++ [x]) = acsC a ++ x.cs := by simp [acsC]
theorem acsC_one (l : List Ac) : (acsC l).all AV.one = true := by
  unfold acsC
  rw [List.all_eq_true]
  intro x hx
  obtain ⟨y, hy, hx⟩ := List.mem_flatten.1 hx
  obtain ⟨a, _, rfl⟩ := List.mem_map.1 hy
  simp [Ac.cs] at hx
  rcases hx with rfl | rfl | rfl | rfl <;> rfl
theorem acsC_refs (l : List Ac) : refsL (acsC l) = [] := by
  induction l with
  | nil => rfl
  | cons a l ih => rw [show acsC (a :: l) = a.cs ++ acsC l from rfl]; simp [Ac.cs, ih]
abbrev SA (H : AH) (v : AV) (l : List Ac) : Prop := SL H 4 v (acsC l)
theorem SA.form {v : AV} {l : List Ac} (h : SA H v l) : ∃ a c s, v = .slice a l.length c s := by
  have := sle_form (es := l.map Ac.cs) h csAc (by omega)
  simpa using this
theorem SA.all {v : AV} {l : List Ac} (h : SA H v l) (h0 : l ≠ []) : ∃ b o c r, v = .slice (some (b, o)) l.length c 4 ∧ rowOf H b = some r ∧
    ∀ i (hi : i < l.length), o + i * 4 + 4 ≤ r.length ∧ (r.drop (o + i * 4)).take 4 = l[i].cs ∧ ∀ j, j < 4 → r[o + i * 4 + j]? = l[i].cs[j]? := by
  obtain ⟨b, o, c, r, rfl, g1, g2⟩ := sle_all (es := l.map Ac.cs) h csAc (by omega) (by simpa using h0)
  exact ⟨b, o, c, r, by simp, g1, fun i hi => g2 i _ (by simp [hi])⟩
theorem acsC_take (l : List Ac) (i : Nat) : (acsC l).take (i * 4) = acsC (l.take i) := by
  by_cases hi : i ≤ l.length
  · conv => lhs; rw [← List.take_append_drop i l, acsC_app]
    rw [List.take_left' (by rw [acsC_len, List.length_take]; omega)]
  · rw [List.take_of_length_le (by rw [acsC_len]; omega), List.take_of_length_le (by omega)]
theorem acsC_drop (l : List Ac) (i : Nat) : (acsC l).drop (i * 4) = acsC (l.drop i) := by
  by_cases hi : i ≤ l.length
  · conv => lhs; rw [← List.take_append_drop i l, acsC_app]
    rw [List.drop_left' (by rw [acsC_len, List.length_take]; omega)]
  · rw [List.drop_eq_nil_of_le (by rw [acsC_len]; omega), List.drop_eq_nil_of_le (by omega)]
    rfl
theorem eqAc {p q : Ac} : eqF ap 0 [(0, 3), (1, 3), (2, 3), (3, 2)] [AV.int .i64 p.id, AV.int .i64 p.mem, AV.int .i64 p.kind, AV.int .i64 p.lim] [AV.int .i64 q.id, AV.int .i64 q.mem, AV.int .i64 q.kind, AV.int .i64 q.lim] = some (decide (p = q)) := by
  obtain ⟨_, _, _, _⟩ := p
  obtain ⟨_, _, _, _⟩ := q
  simp [eqF, eqC]
  rw [Bool.eq_iff_iff]
  simp
theorem acs_eq {v w : AV} {l m : List Ac} (ha : SA H v l) (hb : SA H w m) (hl : l.length ≤ 1000000) (hl2 : m.length ≤ 1000000) (hk : l.length + 10 < k) : callA ap k (.func 26 [] []) [v, w] 0 H = some (.bool (decide (l = m)), H) := by
  obtain ⟨k, rfl⟩ : ∃ k', k = k' + 1 := ⟨k - 1, by omega⟩
  refine Hx.eqn ?_
  rw [hx_gg fn26 rfl, b26]
  obtain ⟨x, c, s, rfl⟩ := SA.form ha
  obtain ⟨x', c', s', rfl⟩ := SA.form hb
  by_cases hn : l.length = m.length
  · simp [hn]
    refine hx_up (fun i s1 => ∃ H', s1 = ⟨sp 26 [(0, .slice x m.length c s), (1, .slice x' m.length c' s'), (5, .int .i64 i)], H', []⟩ ∧ Chg [] H H' ∧ ∀ j (h1 : j < l.length) (h2 : j < m.length), j < i → l[j] = m[j]) m.length ?_ ?_ (by omega) ⟨H, rfl, .refl, by simp⟩
    · rintro i _ hi ⟨H', rfl, c1, hq⟩
      have hw : IntKind.i64.wrap ((i : Int) + 1) = ((i + 1 : Nat) : Int) := by rw [wrap_i64 (by omega) (by omega)]; omega
      simp [hi]
      refine hx_drawn dc26_6 fun H1 c2 _ _ => ?_
      have hi' : i < l.length := hn ▸ hi
      have c3 := c1.tr c2
      obtain ⟨b0, o0, c0, r0, e0, g0, gg⟩ := SA.all (ha.keep c3) (by intro h; simp [h] at hi')
      obtain ⟨b1, o1, c1', r1, e1, g2, gg'⟩ := SA.all (hb.keep c3) (by intro h; simp [h] at hi)
      obtain ⟨ga, g1, -⟩ := gg i hi'
      obtain ⟨gb, g3, -⟩ := gg' i hi
      obtain ⟨z1, z2, z3, z4⟩ := AV.slice.inj e0
      subst z1 z3 z4
      obtain ⟨z1, z2, z3, z4⟩ := AV.slice.inj e1
      subst z1 z3 z4
      have hup : l[i] = m[i] → ∀ j (h1 : j < l.length) (h2 : j < m.length), j < i + 1 → l[j] = m[j] := fun he j h1 h2 hj => by
        rcases Nat.lt_succ_iff_lt_or_eq.1 hj with hj | rfl
        · exact hq j h1 h2 hj
        · exact he
      have hne : ¬ l[i] = m[i] → ¬ l = m := fun h e => h (by subst e; rfl)
      generalize l[i] = p at *
      generalize m[i] = q at *
      simp only [Ac.cs] at g1 g3
      by_cases he : p = q
      · subst he
        simp [d26_6, hi, g0, g1, g2, g3, ga, gb, hw, eqV, eqAc]
        exact ⟨H1, rfl, c3, hup rfl⟩
      · simp [d26_6, hi, g0, g1, g2, g3, ga, gb, hw, hne he, eqV, eqAc, he, gcF_flat, c3]
    · rintro _ ⟨H', rfl, c1, hq⟩
      have he : l = m := List.ext_getElem hn fun j h1 h2 => hq j h1 h2 h2
      simp [he, gcF_flat, c1]
  · have hne : ¬ l = m := fun e => hn (by rw [e])
    have hn' : ¬ (l.length : Int) = (m.length : Int) := by omega
    simp [hn', hne]
/-- A row of one's own, grown by slices.Insert. -/
def OwnAc (H : AH) (w : AV) (l : List Ac) : Prop := (∃ c s, w = .slice none 0 c s ∧ l = []) ∨ ∃ b, w = .slice (some (b, 0)) l.length none 4 ∧ H[b]? = some (.cells (acsC l) .rw)
theorem OwnAc.so {w : AV} {l : List Ac} (h : OwnAc H w l) : SA H w l := by
  rcases h with ⟨c, s, rfl, rfl⟩ | ⟨b, rfl, h⟩
  · exact .nil _ _
  · exact SL.mk (by omega) (rowOf_rw h) (by simp; omega) (by simp)
theorem OwnAc.chg {F : List Nat} {H' : AH} {w : AV} {l : List Ac} (h : OwnAc H w l) (c : Chg F H H') (hF : ∀ i ∈ blk w, i ∉ F) : OwnAc H' w l := by
  rcases h with h | ⟨b, rfl, h⟩
  · exact .inl h
  · exact .inr ⟨b, rfl, c.get h (hF b (by simp))⟩
theorem call_insAc {args : List AV} {lo : Nat} : callA ap (k + 1) (.func 36 [] []) args lo H = insX 4 args lo H := by
  have hp : ap.prim 36 = some (insX 4) := rfl
  simp only [callA, hp, List.nil_append, List.append_nil]
theorem insertAc_ok {w : AV} {own : List Ac} {bv i : Nat} {o : Ac} (h : OwnAc H w own) (hv : H[bv]? = some (.cells o.cs .pl)) (hi : i ≤ own.length) (hl : own.length ≤ 1000000) (hb : bv ∉ blk w) :
    ∃ w' H', callA ap (k + 1) (.func 36 [] []) [w, .int .i64 i, .slice (some (bv, 0)) 1 (some 1) 4] 0 H = some (w', H') ∧ OwnAc H' w' (own.take i ++ o :: own.drop i) ∧ Chg (blk w) H H' ∧ (∀ b ∈ blk w', H.length ≤ b) := by
  rw [call_insAc]
  unfold insX
  simp only [hv]
  rw [if_pos (by simp [Ac.cs])]
  rcases h with ⟨c, s, rfl, rfl⟩ | ⟨b, rfl, h⟩
  · have : i = 0 := by simpa using hi
    subst this
    refine ⟨.slice (some (H.length, 0)) 1 none 4, H ++ [.cells o.cs .rw], ?_, .inr ⟨H.length, by simp, by simp [acsC]⟩, .app _ _, by simp⟩
    simp
  · have hbv : bv ≠ b := fun e => hb (by simp [e])
    simp only [h]
    rw [if_pos ⟨⟨trivial, by omega, by simpa using hi, by simp; omega⟩, by
      rw [List.take_of_length_le (by simp; omega)]; exact acsC_one own, acsC_refs own, hl, hbv⟩]
    have hlt := lt_of_get h
    refine ⟨_, _, rfl, .inr ⟨H.length, ?_, ?_⟩, ?_, by simp⟩
    · have : (own.take i ++ o :: own.drop i).length = own.length + 1 := by simp; omega
      rw [this]
    · rw [List.getElem?_append_right (by simp)]
      have e1 : newR 4 own.length i (acsC own) o.cs = acsC (own.take i ++ o :: own.drop i) := by
        rw [newR, acsC_take, List.take_of_length_le (by simp; omega : (acsC own).length ≤ own.length * 4), acsC_drop, acsC_app, List.append_assoc]
        rfl
      simp [e1]
    · exact ((Chg.set H b _).trans (.app (F := []) _ _) (by simp)).mono (by simp)
theorem appendAc0 {b : Nat} {x : AV} {l : List Ac} (hr : rowOf H b = some []) (h : SA H x l) (hl : l.length ≤ 1000000) : aappend 0 H 4 32 (.slice (some (b, 0)) 0 (some 0) 4) x =
    some (if l = [] then (.slice (some (b, 0)) 0 (some 0) 4, H) else (.slice (some (H.length, 0)) l.length none 4, H ++ [.cells (acsC l) .rw])) := by
  obtain ⟨a, c, s, rfl⟩ := h.form
  have hf := h.first (n := l.length) (by simp; omega)
  have hs := h.sz_ok
  have hs0 : szOk 4 (.slice (some (b, 0)) 0 (some 0) 4) = true := rfl
  rw [aappend_eq, hs, hs0]
  simp only [lenOf, Option.bind_some, hf, acsC_one l, Bool.true_eq_false, if_false, aappendC, hr]
  by_cases h0 : l = []
  · subst h0
    simp
  · have : l.length ≠ 0 := fun h => h0 (List.length_eq_zero_iff.1 h)
    simp [h0, room]
    omega
theorem cloneAc_ok {v : AV} {l : List Ac} (h : SA H v l) (hl : l.length ≤ 1000000) :
    Hx (callA ap (k + 1) (.func 37 [] []) [v] 0 H) fun r => Chg [] H r.2 ∧ Og r.2 4 r.1 (acsC l) ∧ ∀ i ∈ blk r.1, H.length ≤ i := by
  rw [hx_go fn37 rfl, b37]
  obtain ⟨a, c, s, rfl⟩ := h.form
  cases a with
  | none =>
    have h0 : l = [] := by
      by_cases h0 : l = []
      · exact h0
      · obtain ⟨b, o, c', r, e, -⟩ := SA.all h h0
        cases e
    subst h0
    simp [eqV]
    exact ⟨.refl, .mine (.nil _ _)⟩
  | some p =>
    have hap := appendAc0 (H := H ++ [.cells [] .pl]) (b := H.length) (by simp [rowOf]) (h.keep (.app _ _)) hl
    by_cases h0 : l = []
    · subst h0
      rw [if_pos rfl] at hap
      simp only [List.length_nil] at hap
      simp [eqV, hap]
      exact ⟨.app _ _, .zero (by simp [rowOf])⟩
    · rw [if_neg h0] at hap
      simp [eqV, hap]
      exact ⟨.app _ _, .mine (.row _ l.length none (acsC l) _ (by omega) (by simp) (by simp; omega) (List.take_of_length_le (by simp; omega)) (by simp))⟩
end
end Go.Proofs.Ytobfodegdbfhdaa.T.Ro
end
section
/-! Which members, which accounts may be. -/
set_option linter.unusedVariables false
set_option linter.unusedSimpArgs false
set_option maxHeartbeats 4000000
set_option maxRecDepth 100000
namespace Go.Proofs.Ytobfodegdbfhdaa.T.Ro
open Go Go.Ab
def dM : Mb := ⟨0, 0⟩
def dA : Ac := ⟨0, 0, 0, 0⟩
theorem getdM {l : List Mb} {i : Nat} (hi : i < l.length) : l.getD i dM = l[i] := by simp [List.getD_eq_getElem?_getD, hi]
theorem getdA {l : List Ac} {i : Nat} (hi : i < l.length) : l.getD i dA = l[i] := by simp [List.getD_eq_getElem?_getD, hi]
def rightM (x : Mb) : Bool := decide (1 ≤ x.id) && (decide (x.id ≤ 12) && (decide (1 ≤ x.st) && decide (x.st ≤ 4)))
def memB (m : List Mb) : Nat → Bool
  | 0 => true
  | n + 1 => memB m n && (rightM (m.getD n dM) && (decide (n = 0) || decide ((m.getD (n - 1) dM).id < (m.getD n dM).id)))
def membersB (m : List Mb) : Bool := memB m m.length
theorem memB_no {l : List Mb} {i : Nat} (h : memB l (i + 1) = false) : ∀ n, i < n → memB l n = false
  | n + 1, hn => by
    rcases Nat.lt_or_ge i n with g | g
    · simp [memB, memB_no h n g]
    · have : n = i := by omega
      subst this
      exact h
def rightA (x : Ac) : Bool := decide (1 ≤ x.id) && (decide (x.id ≤ 24) && (decide (1 ≤ x.mem) && (decide (x.mem ≤ 12) && ((decide (x.kind = 1) || decide (x.kind = 2)) && (decide (0 ≤ x.lim) && decide (x.lim ≤ 1000000000000))))))
/-- Has one of the first n a house account of that member? -/
def hasH (a : List Ac) (mem : Int) : Nat → Bool
  | 0 => false
  | n + 1 => hasH a mem n || (decide ((a.getD n dA).kind = 1) && decide ((a.getD n dA).mem = mem))
def accB (a : List Ac) : Nat → Bool
  | 0 => true
  | n + 1 => accB a n && (rightA (a.getD n dA) && ((decide (n = 0) || decide ((a.getD (n - 1) dA).id < (a.getD n dA).id)) && !(decide ((a.getD n dA).kind = 1) && hasH a (a.getD n dA).mem n)))
def accsB (a : List Ac) : Bool := accB a a.length
theorem accB_no {l : List Ac} {i : Nat} (h : accB l (i + 1) = false) : ∀ n, i < n → accB l n = false
  | n + 1, hn => by
    rcases Nat.lt_or_ge i n with g | g
    · simp [accB, accB_no h n g]
    · have : n = i := by omega
      subst this
      exact h
section
variable {k : Nat} {H : AH}
theorem members_ok {v : AV} {m : List Mb} (h : SM H v m) (hl : m.length ≤ 1000000) (hk : m.length + 10 < k) : callA ap k (.func 17 [] []) [v] 0 H = some (.bool (membersB m), H) := by
  obtain ⟨k, rfl⟩ : ∃ k', k = k' + 2 := ⟨k - 2, by omega⟩
  refine Hx.eqn ?_
  rw [hx_gg fn17 rfl, b17]
  obtain ⟨a, c, s, rfl⟩ := h.form
  simp
  refine hx_up (fun i st => ∃ H', st = ⟨sp 46 [(0, .slice a m.length c s), (5, .slice a m.length c s), (6, .int .i64 m.length), (7, .int .i64 i)], H', []⟩ ∧ Chg [] H H' ∧ memB m i = true) m.length ?_ ?_ (by omega) ⟨H, by simp [maskS], .refl, rfl⟩
  · rintro i st hi ⟨H2, rfl, c2, ho⟩
    obtain ⟨b, o, c', r, e, g0, g⟩ := SM.all (h.keep c2) (by intro h; simp [h] at hi)
    obtain ⟨z1, z2, z3, z4⟩ := AV.slice.inj e
    subst z1 z3 z4
    obtain ⟨g1, g2, gf⟩ := g i hi
    have hi' : (i : Int) < m.length := by omega
    have w : IntKind.i64.wrap ((i : Int) + 1) = (i : Int) + 1 := wrap_i64 (by omega) (by omega)
    obtain ⟨x, hx⟩ : ∃ x, x = m[i] := ⟨_, rfl⟩
    rw [← hx] at g2 gf
    have f0 := gf 0 (by omega)
    have f1 := gf 1 (by omega)
    simp only [Mb.cs, Nat.add_zero, List.getElem?_cons_zero, List.getElem?_cons_succ] at f0 f1
    have hB : memB m (i + 1) = (memB m i && (rightM x && (decide (i = 0) || decide ((m.getD (i - 1) dM).id < x.id)))) := by rw [memB, getdM hi, ← hx]
    obtain ⟨G, eG⟩ : ∃ G, G = H2 ++ [.cells x.cs .rw] := ⟨_, rfl⟩
    have cG : Chg [] H2 G := by rw [eG]; exact .app _ _
    have rG : rowOf G H2.length = some x.cs := by rw [eG]; simp [Mb.cs]
    simp only [Mb.cs] at eG g2 rG
    simp [hi', hi, g0, g1, g2]
    rw [← eG]
    refine hx_drawn dc17_4 fun H3 c3 _ _ => ?_
    have r3 := cG.row g0 (by simp)
    have g3' := c3.row r3 (by simp)
    have rx := c3.row rG (by simp)
    have cc : Chg [] H H3 := (c2.tr cG).tr c3
    by_cases q1 : x.id < 1
    case pos =>
      have hno : memB m (i + 1) = false := by rw [hB]; simp [rightM]; omega
      simp [d17_4, g3', rx, q1, membersB, memB_no hno _ hi, gcF_flat, cc]
    by_cases q2 : 12 < x.id
    case pos =>
      have hno : memB m (i + 1) = false := by rw [hB]; simp [rightM]; omega
      simp [d17_4, g3', rx, q1, q2, membersB, memB_no hno _ hi, gcF_flat, cc]
    by_cases q3 : x.st < 1
    case pos =>
      have hno : memB m (i + 1) = false := by rw [hB]; simp [rightM]; omega
      simp [d17_4, g3', rx, q1, q2, q3, membersB, memB_no hno _ hi, gcF_flat, cc]
    by_cases q4 : 4 < x.st
    case pos =>
      have hno : memB m (i + 1) = false := by rw [hB]; simp [rightM]; omega
      simp [d17_4, g3', rx, q1, q2, q3, q4, membersB, memB_no hno _ hi, gcF_flat, cc]
    have hr : rightM x = true := by simp [rightM]; omega
    rw [ho, hr, Bool.true_and, Bool.true_and] at hB
    rcases (show i = 0 ∨ ∃ j, i = j + 1 by cases i with | zero => exact .inl rfl | succ m => exact .inr ⟨m, rfl⟩) with h0 | ⟨j, hj⟩
    · have hi0 : ¬ 0 < i := by omega
      simp only [h0, decide_true, Bool.true_or] at hB
      have hB' : memB m (i + 1) = true := by rw [h0]; exact hB
      simp [d17_4, g3', rx, q1, q2, q3, q4, hi0, maskS, w]
      exact ⟨cc, hB'⟩
    · have hjl : j < m.length := by omega
      have hjl' : (j : Int) < m.length := by omega
      have hi0 : 0 < i := by omega
      have hne : ¬ i = 0 := by omega
      have wm : IntKind.i64.wrap ((i : Int) - 1) = (j : Int) := by rw [wrap_i64 (by omega) (by omega)]; omega
      obtain ⟨y, hy⟩ : ∃ y, y = m[j] := ⟨_, rfl⟩
      have e0 := (g j hjl).2.2 0 (by omega)
      rw [← hy] at e0
      simp only [Mb.cs, Nat.add_zero, List.getElem?_cons_zero, List.getElem?_cons_succ] at e0
      have hgy : m.getD (i - 1) dM = y := by rw [show i - 1 = j by omega, getdM hjl, hy]
      rw [hgy] at hB
      by_cases hlt : y.id < x.id
      · have hB' : memB m (i + 1) = true := by rw [hB]; simp [hlt]
        have hn : ¬ x.id ≤ y.id := by omega
        simp [d17_4, g3', rx, q1, q2, q3, q4, hi0, wm, hjl, hjl', e0, hn, maskS, w]
        exact ⟨cc, hB'⟩
      · have hno : memB m (i + 1) = false := by rw [hB]; simp [hlt, hne]
        have hn : x.id ≤ y.id := by omega
        simp [d17_4, g3', rx, q1, q2, q3, q4, hi0, wm, hjl, hjl', e0, hn, membersB, memB_no hno _ hi, gcF_flat, cc]
  · rintro st ⟨H2, rfl, c2, ho⟩
    simp [membersB, ho, gcF_flat, c2]
theorem rmembers_ok {v : AV} {m : List Mb} (h : SM H v m) (hl : m.length ≤ 1000000) (hk : m.length + 10 < k) : callA ap k (.func 27 [] []) [v] 0 H = some (.bool (membersB m), H) := by
  obtain ⟨k, rfl⟩ : ∃ k', k = k' + 2 := ⟨k - 2, by omega⟩
  refine Hx.eqn ?_
  rw [hx_gg fn27 rfl, b27]
  obtain ⟨a, c, s, rfl⟩ := h.form
  simp
  refine hx_up (fun i st => ∃ H', st = ⟨sp 58 [(0, .slice a m.length c s), (3, .int .i64 i)], H', []⟩ ∧ Chg [] H H' ∧ memB m i = true) m.length ?_ ?_ (by omega) ⟨H, by simp [maskS], .refl, rfl⟩
  · rintro i st hi ⟨H2, rfl, c2, ho⟩
    obtain ⟨b, o, c', r, e, g0, g⟩ := SM.all (h.keep c2) (by intro h; simp [h] at hi)
    obtain ⟨z1, z2, z3, z4⟩ := AV.slice.inj e
    subst z1 z3 z4
    obtain ⟨g1, g2, gf⟩ := g i hi
    have hi' : (i : Int) < m.length := by omega
    have w : IntKind.i64.wrap ((i : Int) + 1) = (i : Int) + 1 := wrap_i64 (by omega) (by omega)
    obtain ⟨x, hx⟩ : ∃ x, x = m[i] := ⟨_, rfl⟩
    rw [← hx] at g2 gf
    have f0 := gf 0 (by omega)
    have f1 := gf 1 (by omega)
    simp only [Mb.cs, Nat.add_zero, List.getElem?_cons_zero, List.getElem?_cons_succ] at f0 f1
    have hB : memB m (i + 1) = (memB m i && (rightM x && (decide (i = 0) || decide ((m.getD (i - 1) dM).id < x.id)))) := by rw [memB, getdM hi, ← hx]
    simp [hi', hi]
    refine hx_drawn dc27_4 fun H3 c3 _ _ => ?_
    have g3' := c3.row g0 (by simp)
    have cc : Chg [] H H3 := c2.tr c3
    by_cases q1 : x.id < 1
    case pos =>
      have hno : memB m (i + 1) = false := by rw [hB]; simp [rightM]; omega
      simp [d27_4, g3', f0, f1, hi', hi, q1, membersB, memB_no hno _ hi, gcF_flat, cc]
    by_cases q2 : 12 < x.id
    case pos =>
      have hno : memB m (i + 1) = false := by rw [hB]; simp [rightM]; omega
      simp [d27_4, g3', f0, f1, hi', hi, q1, q2, membersB, memB_no hno _ hi, gcF_flat, cc]
    by_cases q3 : x.st < 1
    case pos =>
      have hno : memB m (i + 1) = false := by rw [hB]; simp [rightM]; omega
      simp [d27_4, g3', f0, f1, hi', hi, q1, q2, q3, membersB, memB_no hno _ hi, gcF_flat, cc]
    by_cases q4 : 4 < x.st
    case pos =>
      have hno : memB m (i + 1) = false := by rw [hB]; simp [rightM]; omega
      simp [d27_4, g3', f0, f1, hi', hi, q1, q2, q3, q4, membersB, memB_no hno _ hi, gcF_flat, cc]
    have hr : rightM x = true := by simp [rightM]; omega
    rw [ho, hr, Bool.true_and, Bool.true_and] at hB
    rcases (show i = 0 ∨ ∃ j, i = j + 1 by cases i with | zero => exact .inl rfl | succ m => exact .inr ⟨m, rfl⟩) with h0 | ⟨j, hj⟩
    · have hi0 : ¬ 0 < i := by omega
      simp only [h0, decide_true, Bool.true_or] at hB
      have hB' : memB m (i + 1) = true := by rw [h0]; exact hB
      simp [d27_4, g3', f0, f1, hi', hi, q1, q2, q3, q4, hi0, maskS, w]
      exact ⟨cc, hB'⟩
    · have hjl : j < m.length := by omega
      have hjl' : (j : Int) < m.length := by omega
      have hi0 : 0 < i := by omega
      have hne : ¬ i = 0 := by omega
      have wm : IntKind.i64.wrap ((i : Int) - 1) = (j : Int) := by rw [wrap_i64 (by omega) (by omega)]; omega
      obtain ⟨y, hy⟩ : ∃ y, y = m[j] := ⟨_, rfl⟩
      have e0 := (g j hjl).2.2 0 (by omega)
      rw [← hy] at e0
      simp only [Mb.cs, Nat.add_zero, List.getElem?_cons_zero, List.getElem?_cons_succ] at e0
      have hgy : m.getD (i - 1) dM = y := by rw [show i - 1 = j by omega, getdM hjl, hy]
      rw [hgy] at hB
      by_cases hlt : y.id < x.id
      · have hB' : memB m (i + 1) = true := by rw [hB]; simp [hlt]
        have hn : ¬ x.id ≤ y.id := by omega
        simp [d27_4, g3', f0, f1, hi', hi, q1, q2, q3, q4, hi0, wm, hjl, hjl', e0, hn, maskS, w]
        exact ⟨cc, hB'⟩
      · have hno : memB m (i + 1) = false := by rw [hB]; simp [hlt, hne]
        have hn : x.id ≤ y.id := by omega
        simp [d27_4, g3', f0, f1, hi', hi, q1, q2, q3, q4, hi0, wm, hjl, hjl', e0, hn, membersB, memB_no hno _ hi, gcF_flat, cc]
  · rintro st ⟨H2, rfl, c2, ho⟩
    simp [membersB, ho, gcF_flat, c2]
end
end Go.Proofs.Ytobfodegdbfhdaa.T.Ro
end
section
/-! Which accounts may be. -/
set_option linter.unusedVariables false
set_option linter.unusedSimpArgs false
set_option maxHeartbeats 40000000
set_option maxRecDepth 100000
namespace Go.Proofs.Ytobfodegdbfhdaa.T.Ro
open Go Go.Ab
def hcs (a : List Ac) (i : Nat) : List AV := (List.range 13).map fun j => AV.bool (hasH a (j : Nat) i)
theorem hcs_len {a : List Ac} {i : Nat} : (hcs a i).length = 13 := by simp [hcs]
theorem hcs_get {a : List Ac} {i j : Nat} (hj : j < 13) : (hcs a i)[j]? = some (.bool (hasH a (j : Nat) i)) := by simp [hcs, hj]
theorem hcs_zero {a : List Ac} : hcs a 0 = [.bool false, .bool false, .bool false, .bool false, .bool false, .bool false, .bool false, .bool false, .bool false, .bool false, .bool false, .bool false, .bool false] := rfl
theorem hcs_same {a : List Ac} {i : Nat} {x : Ac} (hx : a.getD i dA = x) (h : ¬ x.kind = 1) : hcs a (i + 1) = hcs a i := by
  unfold hcs
  refine List.map_congr_left fun j _ => ?_
  rw [hasH, hx]
  simp [h]
theorem hcs_set {a : List Ac} {i j : Nat} {x : Ac} (hx : a.getD i dA = x) (h : x.kind = 1) (hj : x.mem = (j : Nat)) (hj13 : j < 13) : (hcs a i).take j ++ .bool true :: (hcs a i).drop (j + 1) = hcs a (i + 1) := by
  have es : (hcs a i).take j ++ .bool true :: (hcs a i).drop (j + 1) = (hcs a i).set j (.bool true) := by rw [List.set_eq_take_append_cons_drop, if_pos (by rw [hcs_len]; exact hj13)]
  rw [es]
  refine List.ext_getElem? fun q => ?_
  by_cases hq : q < 13
  · by_cases hqj : j = q
    · subst hqj
      rw [List.getElem?_set_self (by rw [hcs_len]; exact hq), hcs_get hq, hasH, hx]
      simp [h, hj]
    · rw [List.getElem?_set_ne hqj, hcs_get hq, hcs_get hq, hasH, hx, hj]
      have : ¬ ((j : Int) = (q : Int)) := by omega
      simp [this]
  · rw [List.getElem?_eq_none (by rw [List.length_set, hcs_len]; omega), List.getElem?_eq_none (by rw [hcs_len]; omega)]
section
variable {k : Nat} {H : AH}
theorem accs_ok {v : AV} {m : List Ac} (h : SA H v m) (hl : m.length ≤ 1000000) (hk : m.length + 10 < k) : callA ap k (.func 18 [] []) [v] 0 H = some (.bool (accsB m), H) := by
  obtain ⟨k, rfl⟩ : ∃ k', k = k' + 2 := ⟨k - 2, by omega⟩
  refine Hx.eqn ?_
  rw [hx_gg fn18 rfl, b18]
  obtain ⟨a, c, s, rfl⟩ := h.form
  obtain ⟨G0, eG0⟩ : ∃ G0, G0 = H ++ [.cells (hcs m 0) .rw] := ⟨_, rfl⟩
  have cG0 : Chg [] H G0 := by rw [eG0]; exact .app _ _
  have gG0 : G0[H.length]? = some (.cells (hcs m 0) .rw) := by rw [eG0]; simp
  rw [hcs_zero] at eG0
  simp
  rw [← eG0]
  refine hx_up (fun i st => ∃ H', st = ⟨sp 77 [(0, .slice a m.length c s), (3, .ptr (some (H.length, 0))), (6, .slice a m.length c s), (7, .int .i64 m.length), (8, .int .i64 i)], H', []⟩ ∧ Chg [] H H' ∧ H'[H.length]? = some (.cells (hcs m i) .rw) ∧ accB m i = true) m.length ?_ ?_ (by omega) ⟨G0, by simp [maskS], cG0, gG0, rfl⟩
  · rintro i st hi ⟨H2, rfl, c2, ga, ho⟩
    obtain ⟨b, o, c', r, e, g0, g⟩ := SA.all (h.keep c2) (by intro h; simp [h] at hi)
    obtain ⟨z1, z2, z3, z4⟩ := AV.slice.inj e
    subst z1 z3 z4
    obtain ⟨g1, g2, -⟩ := g i hi
    have hi' : (i : Int) < m.length := by omega
    have w : IntKind.i64.wrap ((i : Int) + 1) = (i : Int) + 1 := wrap_i64 (by omega) (by omega)
    obtain ⟨x, hx⟩ : ∃ x, x = m[i] := ⟨_, rfl⟩
    rw [← hx] at g2
    have hgx : m.getD i dA = x := by rw [getdA hi, hx]
    have hB : accB m (i + 1) = (accB m i && (rightA x && ((decide (i = 0) || decide ((m.getD (i - 1) dA).id < x.id)) && !(decide (x.kind = 1) && hasH m x.mem i)))) := by rw [accB, hgx]
    obtain ⟨G, eG⟩ : ∃ G, G = H2 ++ [.cells x.cs .rw] := ⟨_, rfl⟩
    have cG : Chg [] H2 G := by rw [eG]; exact .app _ _
    have rG : rowOf G H2.length = some x.cs := by rw [eG]; simp [Ac.cs]
    simp only [Ac.cs] at eG g2 rG
    simp [hi', hi, g0, g1, g2]
    rw [← eG]
    refine hx_drawn dc18_5 fun H3 c3 _ _ => ?_
    have g3' := (cG.tr c3).row g0 (by simp)
    have rx := c3.row rG (by simp)
    have cc : Chg [] H H3 := (c2.tr cG).tr c3
    by_cases q0 : x.id < 1
    case pos =>
      have hno : accB m (i + 1) = false := by rw [hB]; simp [rightA]; omega
      simp [d18_5, g3', rx, q0, accsB, accB_no hno _ hi, gcF_flat, cc]
    by_cases q1 : 24 < x.id
    case pos =>
      have hno : accB m (i + 1) = false := by rw [hB]; simp [rightA]; omega
      simp [d18_5, g3', rx, q0, q1, accsB, accB_no hno _ hi, gcF_flat, cc]
    by_cases q2 : x.mem < 1
    case pos =>
      have hno : accB m (i + 1) = false := by rw [hB]; simp [rightA]; omega
      simp [d18_5, g3', rx, q0, q1, q2, accsB, accB_no hno _ hi, gcF_flat, cc]
    by_cases q3 : 12 < x.mem
    case pos =>
      have hno : accB m (i + 1) = false := by rw [hB]; simp [rightA]; omega
      simp [d18_5, g3', rx, q0, q1, q2, q3, accsB, accB_no hno _ hi, gcF_flat, cc]
    by_cases q4 : x.kind = 1 ∨ x.kind = 2
    case neg =>
      have hno : accB m (i + 1) = false := by rw [hB]; simp [rightA]; omega
      have q4a : ¬ x.kind = 1 := fun h => q4 (.inl h)
      have q4b : ¬ x.kind = 2 := fun h => q4 (.inr h)
      simp [d18_5, g3', rx, q0, q1, q2, q3, q4a, q4b, accsB, accB_no hno _ hi, gcF_flat, cc]
    have q4c : ¬ x.kind = 1 → x.kind = 2 := fun h => q4.resolve_left h
    by_cases q5 : x.lim < 0
    case pos =>
      have hno : accB m (i + 1) = false := by rw [hB]; simp [rightA]; omega
      by_cases q4d : x.kind = 1
      · simp [d18_5, g3', rx, q0, q1, q2, q3, q5, q4d, accsB, accB_no hno _ hi, gcF_flat, cc]
      · have q4e := q4c q4d
        simp [d18_5, g3', rx, q0, q1, q2, q3, q5, q4d, q4e, accsB, accB_no hno _ hi, gcF_flat, cc]
    by_cases q6 : 1000000000000 < x.lim
    case pos =>
      have hno : accB m (i + 1) = false := by rw [hB]; simp [rightA]; omega
      by_cases q4d : x.kind = 1
      · simp [d18_5, g3', rx, q0, q1, q2, q3, q5, q6, q4d, accsB, accB_no hno _ hi, gcF_flat, cc]
      · have q4e := q4c q4d
        simp [d18_5, g3', rx, q0, q1, q2, q3, q5, q6, q4d, q4e, accsB, accB_no hno _ hi, gcF_flat, cc]
    have hr : rightA x = true := by simp [rightA]; omega
    rw [ho, hr, Bool.true_and, Bool.true_and] at hB
    have hprev : i = 0 ∨ (∃ j, i = j + 1) := by cases i with | zero => exact .inl rfl | succ j => exact .inr ⟨j, rfl⟩
    -- the row of numbers
    by_cases hp : i = 0 ∨ (m.getD (i - 1) dA).id < x.id
    case neg =>
      have hi0 : 0 < i := by omega
      obtain ⟨j, hj⟩ : ∃ j, i = j + 1 := ⟨i - 1, by omega⟩
      have hjl : j < m.length := by omega
      have hjl' : (j : Int) < m.length := by omega
      have wm : IntKind.i64.wrap ((i : Int) - 1) = (j : Int) := by rw [wrap_i64 (by omega) (by omega)]; omega
      obtain ⟨y, hy⟩ : ∃ y, y = m[j] := ⟨_, rfl⟩
      have e0 := (g j hjl).2.2 0 (by omega)
      rw [← hy] at e0
      simp only [Ac.cs, Nat.add_zero, List.getElem?_cons_zero, List.getElem?_cons_succ] at e0
      have hgy : m.getD (i - 1) dA = y := by rw [show i - 1 = j by omega, getdA hjl, hy]
      rw [hgy] at hB hp
      have hn : x.id ≤ y.id := by omega
      have hno : accB m (i + 1) = false := by
        have h1 : ¬ i = 0 := by omega
        have h2 : ¬ y.id < x.id := by omega
        rw [hB]; simp [h1, h2]
      by_cases q4d : x.kind = 1
      · simp [d18_5, g3', rx, q0, q1, q2, q3, q5, q6, q4d, hi0, wm, hjl, hjl', e0, hn, accsB, accB_no hno _ hi, gcF_flat, cc]
      · have q4e := q4c q4d
        simp [d18_5, g3', rx, q0, q1, q2, q3, q5, q6, q4d, q4e, hi0, wm, hjl, hjl', e0, hn, accsB, accB_no hno _ hi, gcF_flat, cc]
    have hB2 : accB m (i + 1) = !(decide (x.kind = 1) && hasH m x.mem i) := by
      have h2 : (decide (i = 0) || decide ((m.getD (i - 1) dA).id < x.id)) = true := by
        rcases hp with h1 | h1
        · rw [decide_eq_true h1]; rfl
        · rw [decide_eq_true h1, Bool.or_true]
      rw [hB, h2, Bool.true_and]
    obtain ⟨mj, hmj⟩ : ∃ mj : Nat, x.mem = mj := ⟨x.mem.toNat, by omega⟩
    have q2m : ¬ (mj : Int) < 1 := by omega
    have q3m : ¬ 12 < (mj : Int) := by omega
    by_cases hi0 : 0 < i
    · obtain ⟨j0, hj0⟩ : ∃ j, i = j + 1 := ⟨i - 1, by omega⟩
      have hjl : j0 < m.length := by omega
      have hjl' : (j0 : Int) < m.length := by omega
      have wm : IntKind.i64.wrap ((i : Int) - 1) = (j0 : Int) := by rw [wrap_i64 (by omega) (by omega)]; omega
      obtain ⟨y, hy⟩ : ∃ y, y = m[j0] := ⟨_, rfl⟩
      have e0 := (g j0 hjl).2.2 0 (by omega)
      rw [← hy] at e0
      simp only [Ac.cs, Nat.add_zero, List.getElem?_cons_zero, List.getElem?_cons_succ] at e0
      have hgy : m.getD (i - 1) dA = y := by rw [show i - 1 = j0 by omega, getdA hjl, hy]
      rw [hgy] at hp
      have hn : ¬ x.id ≤ y.id := by omega
      have ga3 := (cG.tr c3).get ga (by simp)
      have ra3 := rowOf_rw ga3
      have wa3 : rowRw H3 0 H.length = some _ := rowRw_rw ga3
      have hg : (hcs m i)[mj]? = some (.bool (hasH m x.mem i)) := by rw [hmj]; exact hcs_get (by omega)
      have hm13 : (mj : Int) < 13 := by omega
      have hm13' : mj < 13 := by omega
      have hm14 : mj + 1 ≤ (hcs m i).length := by rw [hcs_len]; omega
      by_cases q4d : x.kind = 1
      · cases hh : hasH m x.mem i with
        | true =>
          have hno : accB m (i + 1) = false := by rw [hB2, hh]; simp [q4d]
          rw [hh] at hg
          simp [d18_5, g3', rx, q0, q1, q2, q3, q5, q6, q4d, hi0, wm, hjl, hjl', e0, hn, hmj, q2m, q3m, hm13, hm13', ra3, hg, accsB, accB_no hno _ hi, gcF_flat, cc]
        | false =>
          have hyes : accB m (i + 1) = true := by rw [hB2, hh]; simp
          rw [hh] at hg
          have hset := hcs_set hgx q4d hmj hm13'
          simp [d18_5, g3', rx, q0, q1, q2, q3, q5, q6, q4d, hi0, wm, hjl, hjl', e0, hn, hmj, q2m, q3m, hm13, hm13', ra3, wa3, hg, hm14, maskS, w]
          exact ⟨cc.set_new (by omega) _, by rw [List.getElem?_set_self (lt_of_get ga3)]; rw [hset], hyes⟩
      · have q4e := q4c q4d
        have hyes : accB m (i + 1) = true := by rw [hB2]; simp [q4d]
        simp [d18_5, g3', rx, q0, q1, q2, q3, q5, q6, q4d, q4e, hi0, wm, hjl, hjl', e0, hn, maskS, w]
        exact ⟨cc, by rw [hcs_same hgx q4d]; exact ga3, hyes⟩
    · have ga3 := (cG.tr c3).get ga (by simp)
      have ra3 := rowOf_rw ga3
      have wa3 : rowRw H3 0 H.length = some _ := rowRw_rw ga3
      have hg : (hcs m i)[mj]? = some (.bool (hasH m x.mem i)) := by rw [hmj]; exact hcs_get (by omega)
      have hm13 : (mj : Int) < 13 := by omega
      have hm13' : mj < 13 := by omega
      have hm14 : mj + 1 ≤ (hcs m i).length := by rw [hcs_len]; omega
      by_cases q4d : x.kind = 1
      · cases hh : hasH m x.mem i with
        | true =>
          have hno : accB m (i + 1) = false := by rw [hB2, hh]; simp [q4d]
          rw [hh] at hg
          simp [d18_5, g3', rx, q0, q1, q2, q3, q5, q6, q4d, hi0, hmj, q2m, q3m, hm13, hm13', ra3, hg, accsB, accB_no hno _ hi, gcF_flat, cc]
        | false =>
          have hyes : accB m (i + 1) = true := by rw [hB2, hh]; simp
          rw [hh] at hg
          have hset := hcs_set hgx q4d hmj hm13'
          simp [d18_5, g3', rx, q0, q1, q2, q3, q5, q6, q4d, hi0, hmj, q2m, q3m, hm13, hm13', ra3, wa3, hg, hm14, maskS, w]
          exact ⟨cc.set_new (by omega) _, by rw [List.getElem?_set_self (lt_of_get ga3)]; rw [hset], hyes⟩
      · have q4e := q4c q4d
        have hyes : accB m (i + 1) = true := by rw [hB2]; simp [q4d]
        simp [d18_5, g3', rx, q0, q1, q2, q3, q5, q6, q4d, q4e, hi0, maskS, w]
        exact ⟨cc, by rw [hcs_same hgx q4d]; exact ga3, hyes⟩
  · rintro st ⟨H2, rfl, c2, ga, ho⟩
    simp [accsB, ho, gcF_flat, c2]
theorem raccs_ok {v : AV} {m : List Ac} (h : SA H v m) (hl : m.length ≤ 1000000) (hk : m.length + 10 < k) : callA ap k (.func 28 [] []) [v] 0 H = some (.bool (accsB m), H) := by
  obtain ⟨k, rfl⟩ : ∃ k', k = k' + 2 := ⟨k - 2, by omega⟩
  refine Hx.eqn ?_
  rw [hx_gg fn28 rfl, b28]
  obtain ⟨a, c, s, rfl⟩ := h.form
  simp
  refine hx_up (fun i st => ∃ H', st = ⟨sp 95 [(0, .slice a m.length c s), (3, .int .i64 i)], H', []⟩ ∧ Chg [] H H' ∧ accB m i = true) m.length ?_ ?_ (by omega) ⟨H, by simp [maskS], .refl, rfl⟩
  · rintro i st hi ⟨H2, rfl, c2, ho⟩
    obtain ⟨b, o, c', r, e, g0, g⟩ := SA.all (h.keep c2) (by intro h; simp [h] at hi)
    obtain ⟨z1, z2, z3, z4⟩ := AV.slice.inj e
    subst z1 z3 z4
    obtain ⟨g1, g2, -⟩ := g i hi
    have hi' : (i : Int) < m.length := by omega
    have w : IntKind.i64.wrap ((i : Int) + 1) = (i : Int) + 1 := wrap_i64 (by omega) (by omega)
    obtain ⟨x, hx⟩ : ∃ x, x = m[i] := ⟨_, rfl⟩
    rw [← hx] at g2
    have hgx : m.getD i dA = x := by rw [getdA hi, hx]
    have hB : accB m (i + 1) = (accB m i && (rightA x && ((decide (i = 0) || decide ((m.getD (i - 1) dA).id < x.id)) && !(decide (x.kind = 1) && hasH m x.mem i)))) := by rw [accB, hgx]
    obtain ⟨G, eG⟩ : ∃ G, G = H2 ++ [.cells x.cs .rw] := ⟨_, rfl⟩
    have cG : Chg [] H2 G := by rw [eG]; exact .app _ _
    have rG : rowOf G H2.length = some x.cs := by rw [eG]; simp [Ac.cs]
    simp only [Ac.cs] at eG g2 rG
    simp [hi', hi, g0, g1, g2]
    rw [← eG]
    refine hx_drawn dc28_5 fun H3 c3 _ _ => ?_
    have g3' := (cG.tr c3).row g0 (by simp)
    have rx := c3.row rG (by simp)
    have cc : Chg [] H H3 := (c2.tr cG).tr c3
    by_cases q0 : x.id < 1
    case pos =>
      have hno : accB m (i + 1) = false := by rw [hB]; simp [rightA]; omega
      simp [d28_5, g3', rx, q0, accsB, accB_no hno _ hi, gcF_flat, cc]
    by_cases q1 : 24 < x.id
    case pos =>
      have hno : accB m (i + 1) = false := by rw [hB]; simp [rightA]; omega
      simp [d28_5, g3', rx, q0, q1, accsB, accB_no hno _ hi, gcF_flat, cc]
    by_cases q2 : x.mem < 1
    case pos =>
      have hno : accB m (i + 1) = false := by rw [hB]; simp [rightA]; omega
      simp [d28_5, g3', rx, q0, q1, q2, accsB, accB_no hno _ hi, gcF_flat, cc]
    by_cases q3 : 12 < x.mem
    case pos =>
      have hno : accB m (i + 1) = false := by rw [hB]; simp [rightA]; omega
      simp [d28_5, g3', rx, q0, q1, q2, q3, accsB, accB_no hno _ hi, gcF_flat, cc]
    by_cases q4 : x.kind = 1 ∨ x.kind = 2
    case neg =>
      have hno : accB m (i + 1) = false := by rw [hB]; simp [rightA]; omega
      have q4a : ¬ x.kind = 1 := fun h => q4 (.inl h)
      have q4b : ¬ x.kind = 2 := fun h => q4 (.inr h)
      simp [d28_5, g3', rx, q0, q1, q2, q3, q4a, q4b, accsB, accB_no hno _ hi, gcF_flat, cc]
    have q4c : ¬ x.kind = 1 → x.kind = 2 := fun h => q4.resolve_left h
    by_cases q5 : x.lim < 0
    case pos =>
      have hno : accB m (i + 1) = false := by rw [hB]; simp [rightA]; omega
      by_cases q4d : x.kind = 1
      · simp [d28_5, g3', rx, q0, q1, q2, q3, q5, q4d, accsB, accB_no hno _ hi, gcF_flat, cc]
      · have q4e := q4c q4d
        simp [d28_5, g3', rx, q0, q1, q2, q3, q5, q4d, q4e, accsB, accB_no hno _ hi, gcF_flat, cc]
    by_cases q6 : 1000000000000 < x.lim
    case pos =>
      have hno : accB m (i + 1) = false := by rw [hB]; simp [rightA]; omega
      by_cases q4d : x.kind = 1
      · simp [d28_5, g3', rx, q0, q1, q2, q3, q5, q6, q4d, accsB, accB_no hno _ hi, gcF_flat, cc]
      · have q4e := q4c q4d
        simp [d28_5, g3', rx, q0, q1, q2, q3, q5, q6, q4d, q4e, accsB, accB_no hno _ hi, gcF_flat, cc]
    have hr : rightA x = true := by simp [rightA]; omega
    rw [ho, hr, Bool.true_and, Bool.true_and] at hB
    have hprev : i = 0 ∨ (∃ j, i = j + 1) := by cases i with | zero => exact .inl rfl | succ j => exact .inr ⟨j, rfl⟩
    -- the row of numbers
    by_cases hp : i = 0 ∨ (m.getD (i - 1) dA).id < x.id
    case neg =>
      have hi0 : 0 < i := by omega
      obtain ⟨j, hj⟩ : ∃ j, i = j + 1 := ⟨i - 1, by omega⟩
      have hjl : j < m.length := by omega
      have hjl' : (j : Int) < m.length := by omega
      have wm : IntKind.i64.wrap ((i : Int) - 1) = (j : Int) := by rw [wrap_i64 (by omega) (by omega)]; omega
      obtain ⟨y, hy⟩ : ∃ y, y = m[j] := ⟨_, rfl⟩
      have e0 := (g j hjl).2.2 0 (by omega)
      rw [← hy] at e0
      simp only [Ac.cs, Nat.add_zero, List.getElem?_cons_zero, List.getElem?_cons_succ] at e0
      have hgy : m.getD (i - 1) dA = y := by rw [show i - 1 = j by omega, getdA hjl, hy]
      rw [hgy] at hB hp
      have hn : x.id ≤ y.id := by omega
      have hno : accB m (i + 1) = false := by
        have h1 : ¬ i = 0 := by omega
        have h2 : ¬ y.id < x.id := by omega
        rw [hB]; simp [h1, h2]
      by_cases q4d : x.kind = 1
      · simp [d28_5, g3', rx, q0, q1, q2, q3, q5, q6, q4d, hi0, wm, hjl, hjl', e0, hn, accsB, accB_no hno _ hi, gcF_flat, cc]
      · have q4e := q4c q4d
        simp [d28_5, g3', rx, q0, q1, q2, q3, q5, q6, q4d, q4e, hi0, wm, hjl, hjl', e0, hn, accsB, accB_no hno _ hi, gcF_flat, cc]
    have hB2 : accB m (i + 1) = !(decide (x.kind = 1) && hasH m x.mem i) := by
      have h2 : (decide (i = 0) || decide ((m.getD (i - 1) dA).id < x.id)) = true := by
        rcases hp with h1 | h1
        · rw [decide_eq_true h1]; rfl
        · rw [decide_eq_true h1, Bool.or_true]
      rw [hB, h2, Bool.true_and]
    obtain ⟨mj, hmj⟩ : ∃ mj : Nat, x.mem = mj := ⟨x.mem.toNat, by omega⟩
    have q2m : ¬ (mj : Int) < 1 := by omega
    have q3m : ¬ 12 < (mj : Int) := by omega
    by_cases hi0 : 0 < i
    · obtain ⟨j0, hj0⟩ : ∃ j, i = j + 1 := ⟨i - 1, by omega⟩
      have hjl : j0 < m.length := by omega
      have hjl' : (j0 : Int) < m.length := by omega
      have wm : IntKind.i64.wrap ((i : Int) - 1) = (j0 : Int) := by rw [wrap_i64 (by omega) (by omega)]; omega
      obtain ⟨y, hy⟩ : ∃ y, y = m[j0] := ⟨_, rfl⟩
      have e0 := (g j0 hjl).2.2 0 (by omega)
      rw [← hy] at e0
      simp only [Ac.cs, Nat.add_zero, List.getElem?_cons_zero, List.getElem?_cons_succ] at e0
      have hgy : m.getD (i - 1) dA = y := by rw [show i - 1 = j0 by omega, getdA hjl, hy]
      rw [hgy] at hp
      have hn : ¬ x.id ≤ y.id := by omega
      have inner : ∀ q4f : x.kind = 1 ∨ ¬ x.kind = 1, True := fun _ => trivial
      by_cases q4d : x.kind = 1
      · simp [d28_5, g3', rx, q0, q1, q2, q3, q5, q6, q4d, hi0, wm, hjl, hjl', e0, hn]
        refine hx_up (fun j st => ∃ H', st = ⟨sp 95 [(0, .slice (some (b, o)) m.length c 4), (3, .int .i64 i), (4, .ptr (some (H2.length, 0))), (5, .int .i64 j)], H', []⟩ ∧ Chg [] H3 H' ∧ hasH m x.mem j = false) i ?_ ?_ (by omega) ⟨H3, by simp [maskS], .refl, rfl⟩
        · rintro j st hj ⟨H4, rfl, c4, hh⟩
          have hj' : (j : Int) < i := by omega
          have hjm : j < m.length := by omega
          have hjm' : (j : Int) < m.length := by omega
          have wj : IntKind.i64.wrap ((j : Int) + 1) = (j : Int) + 1 := wrap_i64 (by omega) (by omega)
          simp [hj', hj]
          refine hx_drawn dc28_10 fun X cX _ _ => ?_
          have c5 := c4.tr cX
          have gx := c5.row g3' (by simp)
          have rx5 := c5.row rx (by simp)
          obtain ⟨y, hy⟩ : ∃ y, y = m[j] := ⟨_, rfl⟩
          have yf := (g j hjm).2.2
          rw [← hy] at yf
          have y1 := yf 1 (by omega)
          have y2 := yf 2 (by omega)
          simp only [Ac.cs, Nat.add_zero, List.getElem?_cons_zero, List.getElem?_cons_succ] at y1 y2
          have hsj : hasH m x.mem (j + 1) = (hasH m x.mem j || (decide (y.kind = 1) && decide (y.mem = x.mem))) := by rw [hasH, getdA hjm, ← hy]
          rw [hh, Bool.false_or] at hsj
          by_cases y3 : y.kind = 1
          · by_cases y4 : y.mem = x.mem
            · have hhi : ∀ n, j < n → hasH m x.mem n = true := by
                intro n hn
                induction n with
                | zero => omega
                | succ n ih =>
                  by_cases hjn : j = n
                  · subst hjn; rw [hsj]; simp [y3, y4]
                  · rw [hasH, ih (by omega)]; rfl
              have hno : accB m (i + 1) = false := by rw [hB2, hhi i hj]; simp [q4d]
              simp [d28_10, hjm, hjm', gx, rx5, y1, y2, q4d, y3, y4, accsB, accB_no hno _ hi, gcF_flat, cc.tr c5]
            · simp [d28_10, hjm, hjm', gx, rx5, y1, y2, q4d, y3, y4, maskS, wj]
              exact ⟨c5, by rw [hsj]; simp [y4]⟩
          · simp [d28_10, hjm, hjm', gx, rx5, y1, y2, q4d, y3, maskS, wj]
            exact ⟨c5, by rw [hsj]; simp [y3]⟩
        · rintro st ⟨H4, rfl, c4, hh⟩
          have hyes : accB m (i + 1) = true := by rw [hB2, hh]; simp
          simp [maskS, w]
          exact ⟨cc.tr c4, hyes⟩
      · have q4e := q4c q4d
        have hyes : accB m (i + 1) = true := by rw [hB2]; simp [q4d]
        simp [d28_5, g3', rx, q0, q1, q2, q3, q5, q6, q4d, q4e, hi0, wm, hjl, hjl', e0, hn]
        refine hx_up (fun j st => ∃ H', st = ⟨sp 95 [(0, .slice (some (b, o)) m.length c 4), (3, .int .i64 i), (4, .ptr (some (H2.length, 0))), (5, .int .i64 j)], H', []⟩ ∧ Chg [] H3 H') i ?_ ?_ (by omega) ⟨H3, by simp [maskS], .refl⟩
        · rintro j st hj ⟨H4, rfl, c4⟩
          have hj' : (j : Int) < i := by omega
          have hjm : j < m.length := by omega
          have hjm' : (j : Int) < m.length := by omega
          have wj : IntKind.i64.wrap ((j : Int) + 1) = (j : Int) + 1 := wrap_i64 (by omega) (by omega)
          simp [hj', hj]
          refine hx_drawn dc28_10 fun X cX _ _ => ?_
          have c5 := c4.tr cX
          have gx := c5.row g3' (by simp)
          have rx5 := c5.row rx (by simp)
          simp [d28_10, hjm, hjm', gx, rx5, q4d, q4e, maskS, wj]
          exact c5
        · rintro st ⟨H4, rfl, c4⟩
          simp [maskS, w]
          exact ⟨cc.tr c4, hyes⟩
    · have inner : ∀ q4f : x.kind = 1 ∨ ¬ x.kind = 1, True := fun _ => trivial
      by_cases q4d : x.kind = 1
      · simp [d28_5, g3', rx, q0, q1, q2, q3, q5, q6, q4d, hi0]
        refine hx_up (fun j st => ∃ H', st = ⟨sp 95 [(0, .slice (some (b, o)) m.length c 4), (3, .int .i64 i), (4, .ptr (some (H2.length, 0))), (5, .int .i64 j)], H', []⟩ ∧ Chg [] H3 H' ∧ hasH m x.mem j = false) i ?_ ?_ (by omega) ⟨H3, by simp [maskS], .refl, rfl⟩
        · rintro j st hj ⟨H4, rfl, c4, hh⟩
          have hj' : (j : Int) < i := by omega
          have hjm : j < m.length := by omega
          have hjm' : (j : Int) < m.length := by omega
          have wj : IntKind.i64.wrap ((j : Int) + 1) = (j : Int) + 1 := wrap_i64 (by omega) (by omega)
          simp [hj', hj]
          refine hx_drawn dc28_10 fun X cX _ _ => ?_
          have c5 := c4.tr cX
          have gx := c5.row g3' (by simp)
          have rx5 := c5.row rx (by simp)
          obtain ⟨y, hy⟩ : ∃ y, y = m[j] := ⟨_, rfl⟩
          have yf := (g j hjm).2.2
          rw [← hy] at yf
          have y1 := yf 1 (by omega)
          have y2 := yf 2 (by omega)
          simp only [Ac.cs, Nat.add_zero, List.getElem?_cons_zero, List.getElem?_cons_succ] at y1 y2
          have hsj : hasH m x.mem (j + 1) = (hasH m x.mem j || (decide (y.kind = 1) && decide (y.mem = x.mem))) := by rw [hasH, getdA hjm, ← hy]
          rw [hh, Bool.false_or] at hsj
          by_cases y3 : y.kind = 1
          · by_cases y4 : y.mem = x.mem
            · have hhi : ∀ n, j < n → hasH m x.mem n = true := by
                intro n hn
                induction n with
                | zero => omega
                | succ n ih =>
                  by_cases hjn : j = n
                  · subst hjn; rw [hsj]; simp [y3, y4]
                  · rw [hasH, ih (by omega)]; rfl
              have hno : accB m (i + 1) = false := by rw [hB2, hhi i hj]; simp [q4d]
              simp [d28_10, hjm, hjm', gx, rx5, y1, y2, q4d, y3, y4, accsB, accB_no hno _ hi, gcF_flat, cc.tr c5]
            · simp [d28_10, hjm, hjm', gx, rx5, y1, y2, q4d, y3, y4, maskS, wj]
              exact ⟨c5, by rw [hsj]; simp [y4]⟩
          · simp [d28_10, hjm, hjm', gx, rx5, y1, y2, q4d, y3, maskS, wj]
            exact ⟨c5, by rw [hsj]; simp [y3]⟩
        · rintro st ⟨H4, rfl, c4, hh⟩
          have hyes : accB m (i + 1) = true := by rw [hB2, hh]; simp
          simp [maskS, w]
          exact ⟨cc.tr c4, hyes⟩
      · have q4e := q4c q4d
        have hyes : accB m (i + 1) = true := by rw [hB2]; simp [q4d]
        simp [d28_5, g3', rx, q0, q1, q2, q3, q5, q6, q4d, q4e, hi0]
        refine hx_up (fun j st => ∃ H', st = ⟨sp 95 [(0, .slice (some (b, o)) m.length c 4), (3, .int .i64 i), (4, .ptr (some (H2.length, 0))), (5, .int .i64 j)], H', []⟩ ∧ Chg [] H3 H') i ?_ ?_ (by omega) ⟨H3, by simp [maskS], .refl⟩
        · rintro j st hj ⟨H4, rfl, c4⟩
          have hj' : (j : Int) < i := by omega
          have hjm : j < m.length := by omega
          have hjm' : (j : Int) < m.length := by omega
          have wj : IntKind.i64.wrap ((j : Int) + 1) = (j : Int) + 1 := wrap_i64 (by omega) (by omega)
          simp [hj', hj]
          refine hx_drawn dc28_10 fun X cX _ _ => ?_
          have c5 := c4.tr cX
          have gx := c5.row g3' (by simp)
          have rx5 := c5.row rx (by simp)
          simp [d28_10, hjm, hjm', gx, rx5, q4d, q4e, maskS, wj]
          exact c5
        · rintro st ⟨H4, rfl, c4⟩
          simp [maskS, w]
          exact ⟨cc.tr c4, hyes⟩
  · rintro st ⟨H2, rfl, c2, ho⟩
    simp [accsB, ho, gcF_flat, c2]
end
end Go.Proofs.Ytobfodegdbfhdaa.T.Ro
end
section
/-! Who is where. -/
set_option linter.unusedVariables false
set_option linter.unusedSimpArgs false
set_option maxHeartbeats 40000000
set_option maxRecDepth 100000
namespace Go.Proofs.Ytobfodegdbfhdaa.T.Ro
open Go Go.Ab
def stL (m : List Mb) (id : Int) : Int := match m.find? (fun x => decide (x.id = id)) with
  | some x => x.st
  | none => 0
def findL (a : List Ac) (id : Int) : Option Ac := a.find? (fun x => decide (x.id = id))
def houseL (a : List Ac) (mem : Int) : Int := match a.find? (fun x => decide (x.mem = mem) && decide (x.kind = 1)) with
  | some x => x.id
  | none => 0
def statusB (m : List Mb) (id : Int) : Int := if membersB m = true then stL m id else 0
def findB (a : List Ac) (id : Int) : Option Ac := if accsB a = true then findL a id else none
def houseB (a : List Ac) (mem : Int) : Int := if accsB a = true then houseL a mem else 0
theorem find_at {α : Type} {P : α → Bool} {l : List α} {i : Nat} (hi : i < l.length) (hp : P l[i] = true) (hno : ∀ j (hj : j < l.length), j < i → P l[j] = false) : l.find? P = some l[i] := by
  rw [List.find?_eq_some_iff_getElem]
  exact ⟨hp, i, hi, rfl, fun j hj => by rw [hno j (by omega) hj]; rfl⟩
theorem find_no {α : Type} {P : α → Bool} {l : List α} (hno : ∀ j (hj : j < l.length), j < l.length → P l[j] = false) : l.find? P = none := by
  rw [List.find?_eq_none]
  intro x hx
  obtain ⟨j, hj, rfl⟩ := List.getElem_of_mem hx
  rw [hno j hj hj]
  simp
theorem no_up {α : Type} {P : α → Bool} {l : List α} {i : Nat} {x : α} (hi : i < l.length) (hx : x = l[i]) (hp : P x = false) (hno : ∀ j (hj : j < l.length), j < i → P l[j] = false) : ∀ j (hj : j < l.length), j < i + 1 → P l[j] = false := fun j hj h => by
  by_cases hji : j = i
  · subst hji; rw [← hx]; exact hp
  · exact hno j hj (by omega)
def fA (o : Option Ac) : Ac := o.getD dA
section
variable {k : Nat} {H : AH}
theorem status_ok {v : AV} {m : List Mb} {id : Int} (h : SM H v m) (hl : m.length ≤ 1000000) (hk : m.length + 20 < k) : callA ap k (.func 15 [] []) [v, .int .i64 id] 0 H = some (.int .i64 (statusB m id), H) := by
  obtain ⟨k, rfl⟩ : ∃ k', k = k' + 2 := ⟨k - 2, by omega⟩
  refine Hx.eqn ?_
  rw [hx_gg fn15 rfl, b15]
  have hm := members_ok (k := k + 1) h hl (by omega)
  obtain ⟨a, c, s, rfl⟩ := h.form
  cases hmm : membersB m with
  | false =>
    rw [hmm] at hm
    simp [hm, statusB, hmm]
  | true =>
  rw [hmm] at hm
  have hS : statusB m id = stL m id := by rw [statusB, hmm]; rfl
  rw [hS]
  simp [hm]
  refine hx_up (fun i st => ∃ H', st = ⟨sp 23 [(1, .int .i64 id), (10, .slice a m.length c s), (11, .int .i64 m.length), (12, .int .i64 i)], H', []⟩ ∧ Chg [] H H' ∧ ∀ j (hj : j < m.length), j < i → decide (m[j].id = id) = false) m.length ?_ ?_ (by omega) ⟨H, by simp [maskS], .refl, by simp⟩
  · rintro i st hi ⟨H2, rfl, c2, ho⟩
    obtain ⟨b, o, c', r, e, g0, g⟩ := SM.all (h.keep c2) (by intro h; simp [h] at hi)
    obtain ⟨z1, z2, z3, z4⟩ := AV.slice.inj e
    subst z1 z3 z4
    obtain ⟨g1, g2, gf⟩ := g i hi
    have hi' : (i : Int) < m.length := by omega
    have w : IntKind.i64.wrap ((i : Int) + 1) = (i : Int) + 1 := wrap_i64 (by omega) (by omega)
    obtain ⟨x, hx⟩ : ∃ x, x = m[i] := ⟨_, rfl⟩
    rw [← hx] at g2 gf
    have f0 := gf 0 (by omega)
    have f1 := gf 1 (by omega)
    simp only [Mb.cs, Nat.add_zero, List.getElem?_cons_zero, List.getElem?_cons_succ] at f0 f1 g2
    obtain ⟨G, eG⟩ : ∃ G, G = H2 ++ [.cells x.cs .rw] := ⟨_, rfl⟩
    have cG : Chg [] H2 G := by rw [eG]; exact .app _ _
    have rG : rowOf G H2.length = some x.cs := by rw [eG]; simp [Mb.cs]
    simp only [Mb.cs] at eG rG
    simp [hi', hi, g0, g1, g2]
    rw [← eG]
    by_cases hp : x.id = id
    · have hf : stL m id = x.st := by rw [stL, find_at hi (by rw [← hx]; simpa using hp) ho, ← hx]
      simp [rG, hp, hf, gcF_flat, c2.tr cG]
    · simp [rG, hp, maskS, w]
      exact ⟨c2.tr cG, by simpa using no_up (P := fun x : Mb => decide (x.id = id)) hi hx (by simpa using hp) ho⟩
  · rintro st ⟨H2, rfl, c2, ho⟩
    have hf : stL m id = 0 := by rw [stL, find_no ho]
    simp [hf, gcF_flat, c2]
theorem rst_ok {v : AV} {m : List Mb} {id : Int} (h : SM H v m) (hl : m.length ≤ 1000000) (hk : m.length + 20 < k) : callA ap k (.func 39 [] []) [v, .int .i64 id] 0 H = some (.int .i64 (stL m id), H) := by
  obtain ⟨k, rfl⟩ : ∃ k', k = k' + 2 := ⟨k - 2, by omega⟩
  refine Hx.eqn ?_
  rw [hx_gg fn39 rfl, b39]
  obtain ⟨a, c, s, rfl⟩ := h.form
  simp
  refine hx_up (fun i st => ∃ H', st = ⟨sp 24 [(0, .slice a m.length c s), (1, .int .i64 id), (5, .int .i64 i)], H', []⟩ ∧ Chg [] H H' ∧ ∀ j (hj : j < m.length), j < i → decide (m[j].id = id) = false) m.length ?_ ?_ (by omega) ⟨H, by simp [maskS], .refl, by simp⟩
  · rintro i st hi ⟨H2, rfl, c2, ho⟩
    obtain ⟨b, o, c', r, e, g0, g⟩ := SM.all (h.keep c2) (by intro h; simp [h] at hi)
    obtain ⟨z1, z2, z3, z4⟩ := AV.slice.inj e
    subst z1 z3 z4
    obtain ⟨g1, g2, gf⟩ := g i hi
    have hi' : (i : Int) < m.length := by omega
    have w : IntKind.i64.wrap ((i : Int) + 1) = (i : Int) + 1 := wrap_i64 (by omega) (by omega)
    obtain ⟨x, hx⟩ : ∃ x, x = m[i] := ⟨_, rfl⟩
    rw [← hx] at g2 gf
    have f0 := gf 0 (by omega)
    have f1 := gf 1 (by omega)
    simp only [Mb.cs, Nat.add_zero, List.getElem?_cons_zero, List.getElem?_cons_succ] at f0 f1 g2
    by_cases hp : x.id = id
    · have hf : stL m id = x.st := by rw [stL, find_at hi (by rw [← hx]; simpa using hp) ho, ← hx]
      simp [hi', hi, g0, f0, f1, hp, hf, gcF_flat, c2]
    · simp [hi', hi, g0, f0, hp, maskS, w]
      exact ⟨c2, by simpa using no_up (P := fun x : Mb => decide (x.id = id)) hi hx (by simpa using hp) ho⟩
  · rintro st ⟨H2, rfl, c2, ho⟩
    have hf : stL m id = 0 := by rw [stL, find_no ho]
    simp [hf, gcF_flat, c2]
theorem rstatus_ok {v : AV} {m : List Mb} {id : Int} (h : SM H v m) (hl : m.length ≤ 1000000) (hk : m.length + 30 < k) : callA ap k (.func 30 [] []) [v, .int .i64 id] 0 H = some (.int .i64 (statusB m id), H) := by
  obtain ⟨k, rfl⟩ : ∃ k', k = k' + 2 := ⟨k - 2, by omega⟩
  refine Hx.eqn ?_
  rw [hx_gg fn30 rfl, b30]
  have hm := rmembers_ok (k := k + 1) h hl (by omega)
  have hs := rst_ok (k := k + 1) (id := id) h hl (by omega)
  obtain ⟨a, c, s, rfl⟩ := h.form
  cases hmm : membersB m with
  | false =>
    rw [hmm] at hm
    simp [hm, statusB, hmm]
  | true =>
    rw [hmm] at hm
    simp [hm, hs, statusB, hmm]
theorem house_ok {v : AV} {m : List Ac} {mem : Int} (h : SA H v m) (hl : m.length ≤ 1000000) (hk : m.length + 20 < k) : callA ap k (.func 12 [] []) [v, .int .i64 mem] 0 H = some (.int .i64 (houseB m mem), H) := by
  obtain ⟨k, rfl⟩ : ∃ k', k = k' + 2 := ⟨k - 2, by omega⟩
  refine Hx.eqn ?_
  rw [hx_gg fn12 rfl, b12]
  have hm := accs_ok (k := k + 1) h hl (by omega)
  obtain ⟨a, c, s, rfl⟩ := h.form
  cases hmm : accsB m with
  | false =>
    rw [hmm] at hm
    simp [hm, houseB, hmm]
  | true =>
  rw [hmm] at hm
  have hS : houseB m mem = houseL m mem := by rw [houseB, hmm]; rfl
  rw [hS]
  simp [hm]
  refine hx_up (fun i st => ∃ H', st = ⟨sp 28 [(1, .int .i64 mem), (10, .slice a m.length c s), (11, .int .i64 m.length), (12, .int .i64 i)], H', []⟩ ∧ Chg [] H H' ∧ ∀ j (hj : j < m.length), j < i → (fun x : Ac => decide (x.mem = mem) && decide (x.kind = 1)) m[j] = false) m.length ?_ ?_ (by omega) ⟨H, by simp [maskS], .refl, by simp⟩
  · rintro i st hi ⟨H2, rfl, c2, ho⟩
    obtain ⟨b, o, c', r, e, g0, g⟩ := SA.all (h.keep c2) (by intro h; simp [h] at hi)
    obtain ⟨z1, z2, z3, z4⟩ := AV.slice.inj e
    subst z1 z3 z4
    obtain ⟨g1, g2, gf⟩ := g i hi
    have hi' : (i : Int) < m.length := by omega
    have w : IntKind.i64.wrap ((i : Int) + 1) = (i : Int) + 1 := wrap_i64 (by omega) (by omega)
    obtain ⟨x, hx⟩ : ∃ x, x = m[i] := ⟨_, rfl⟩
    rw [← hx] at g2 gf
    have f0 := gf 0 (by omega)
    have f1 := gf 1 (by omega)
    have f2 := gf 2 (by omega)
    simp only [Ac.cs, Nat.add_zero, List.getElem?_cons_zero, List.getElem?_cons_succ] at f0 f1 f2 g2
    have hup : (fun x : Ac => decide (x.mem = mem) && decide (x.kind = 1)) x = false → ∀ j (hj : j < m.length), j < i + 1 → (fun x : Ac => decide (x.mem = mem) && decide (x.kind = 1)) m[j] = false := fun hp => no_up (P := fun x : Ac => decide (x.mem = mem) && decide (x.kind = 1)) hi hx hp ho
    obtain ⟨G, eG⟩ : ∃ G, G = H2 ++ [.cells x.cs .rw] := ⟨_, rfl⟩
    have cG : Chg [] H2 G := by rw [eG]; exact .app _ _
    have rG : rowOf G H2.length = some x.cs := by rw [eG]; simp [Ac.cs]
    have cc := c2.tr cG
    simp only [Ac.cs] at eG rG
    simp [hi', hi, g0, g1, g2]
    rw [← eG]
    by_cases hp : x.mem = mem
    · by_cases hq : x.kind = 1
      · have hf : houseL m mem = x.id := by rw [houseL, find_at (P := fun x : Ac => decide (x.mem = mem) && decide (x.kind = 1)) hi (by rw [← hx]; simp [hp, hq]) ho, ← hx]
        simp [rG, hp, hq, hf, gcF_flat, cc]
      · have hu := hup (by simp [hq])
        simp [rG, hp, hq, maskS, w]
        exact ⟨cc, by simpa using hu⟩
    · have hu := hup (by simp [hp])
      simp [rG, hp, maskS, w]
      exact ⟨cc, by simpa using hu⟩
  · rintro st ⟨H2, rfl, c2, ho⟩
    have hf : houseL m mem = 0 := by rw [houseL, find_no ho]
    simp [hf, gcF_flat, c2]
theorem rhouse_ok {v : AV} {m : List Ac} {mem : Int} (h : SA H v m) (hl : m.length ≤ 1000000) (hk : m.length + 20 < k) : callA ap k (.func 31 [] []) [v, .int .i64 mem] 0 H = some (.int .i64 (houseB m mem), H) := by
  obtain ⟨k, rfl⟩ : ∃ k', k = k' + 2 := ⟨k - 2, by omega⟩
  refine Hx.eqn ?_
  rw [hx_gg fn31 rfl, b31]
  have hm := raccs_ok (k := k + 1) h hl (by omega)
  obtain ⟨a, c, s, rfl⟩ := h.form
  cases hmm : accsB m with
  | false =>
    rw [hmm] at hm
    simp [hm, houseB, hmm]
  | true =>
  rw [hmm] at hm
  have hS : houseB m mem = houseL m mem := by rw [houseB, hmm]; rfl
  rw [hS]
  simp [hm]
  refine hx_up (fun i st => ∃ H', st = ⟨sp 35 [(0, .slice a m.length c s), (1, .int .i64 mem), (5, .int .i64 i)], H', []⟩ ∧ Chg [] H H' ∧ ∀ j (hj : j < m.length), j < i → (fun x : Ac => decide (x.mem = mem) && decide (x.kind = 1)) m[j] = false) m.length ?_ ?_ (by omega) ⟨H, by simp [maskS], .refl, by simp⟩
  · rintro i st hi ⟨H2, rfl, c2, ho⟩
    obtain ⟨b, o, c', r, e, g0, g⟩ := SA.all (h.keep c2) (by intro h; simp [h] at hi)
    obtain ⟨z1, z2, z3, z4⟩ := AV.slice.inj e
    subst z1 z3 z4
    obtain ⟨g1, g2, gf⟩ := g i hi
    have hi' : (i : Int) < m.length := by omega
    have w : IntKind.i64.wrap ((i : Int) + 1) = (i : Int) + 1 := wrap_i64 (by omega) (by omega)
    obtain ⟨x, hx⟩ : ∃ x, x = m[i] := ⟨_, rfl⟩
    rw [← hx] at g2 gf
    have f0 := gf 0 (by omega)
    have f1 := gf 1 (by omega)
    have f2 := gf 2 (by omega)
    simp only [Ac.cs, Nat.add_zero, List.getElem?_cons_zero, List.getElem?_cons_succ] at f0 f1 f2 g2
    have hup : (fun x : Ac => decide (x.mem = mem) && decide (x.kind = 1)) x = false → ∀ j (hj : j < m.length), j < i + 1 → (fun x : Ac => decide (x.mem = mem) && decide (x.kind = 1)) m[j] = false := fun hp => no_up (P := fun x : Ac => decide (x.mem = mem) && decide (x.kind = 1)) hi hx hp ho
    have cc := c2
    by_cases hp : x.mem = mem
    · by_cases hq : x.kind = 1
      · have hf : houseL m mem = x.id := by rw [houseL, find_at (P := fun x : Ac => decide (x.mem = mem) && decide (x.kind = 1)) hi (by rw [← hx]; simp [hp, hq]) ho, ← hx]
        simp [hi', hi, g0, f0, f1, f2, hp, hq, hf, gcF_flat, cc]
      · have hu := hup (by simp [hq])
        simp [hi', hi, g0, f0, f1, f2, hp, hq, maskS, w]
        exact ⟨cc, by simpa using hu⟩
    · have hu := hup (by simp [hp])
      simp [hi', hi, g0, f0, f1, f2, hp, maskS, w]
      exact ⟨cc, by simpa using hu⟩
  · rintro st ⟨H2, rfl, c2, ho⟩
    have hf : houseL m mem = 0 := by rw [houseL, find_no ho]
    simp [hf, gcF_flat, c2]
end
end Go.Proofs.Ytobfodegdbfhdaa.T.Ro
end
section
/-! Who is where: accounts found; which rolls may be; what changes a status. -/
set_option linter.unusedVariables false
set_option linter.unusedSimpArgs false
set_option maxHeartbeats 40000000
set_option maxRecDepth 100000
namespace Go.Proofs.Ytobfodegdbfhdaa.T.Ro
open Go Go.Ab
section
variable {k : Nat} {H : AH}
theorem find_ok {v : AV} {m : List Ac} {id : Int} (h : SA H v m) (hl : m.length ≤ 1000000) (hk : m.length + 20 < k) : callA ap k (.func 11 [] []) [v, .int .i64 id] 0 H = some (.tuple [.agg (fA (findB m id)).cs, .bool (findB m id).isSome], H) := by
  obtain ⟨k, rfl⟩ : ∃ k', k = k' + 2 := ⟨k - 2, by omega⟩
  refine Hx.eqn ?_
  rw [hx_gg fn11 rfl, b11]
  obtain ⟨G0, eG0⟩ : ∃ G0, G0 = H ++ [.cells [.int .i64 0, .int .i64 0, .int .i64 0, .int .i64 0] .rw] := ⟨_, rfl⟩
  have cG0 : Chg [] H G0 := by rw [eG0]; exact .app _ _
  have gG0 : G0[H.length]? = some (.cells [.int .i64 0, .int .i64 0, .int .i64 0, .int .i64 0] .rw) := by rw [eG0]; simp
  have hm := accs_ok (k := k + 1) (h.keep cG0) hl (by omega)
  obtain ⟨a, c, s, rfl⟩ := h.form
  simp
  rw [← eG0]
  have wG0 : rowRw G0 0 H.length = some _ := rowRw_rw gG0
  cases hmm : accsB m with
  | false =>
    rw [hmm] at hm
    have hr := rowOf_self (H := G0) (b := H.length) (l := [.int .i64 0, .int .i64 0, .int .i64 0, .int .i64 0]) (lt_of_get gG0)
    simp [hm, wG0, hr, findB, hmm, fA, dA, Ac.cs, gcF_flat, cG0.set_new (Nat.le_refl _) _]
  | true =>
  rw [hmm] at hm
  have hS : findB m id = findL m id := by rw [findB, hmm]; rfl
  rw [hS]
  simp [hm]
  refine hx_up (fun i st => ∃ H', st = ⟨sp 25 [(1, .int .i64 id), (4, .ptr (some (H.length, 0))), (12, .slice a m.length c s), (13, .int .i64 m.length), (14, .int .i64 i)], H', []⟩ ∧ Chg [] H H' ∧ H'[H.length]? = some (.cells [.int .i64 0, .int .i64 0, .int .i64 0, .int .i64 0] .rw) ∧ ∀ j (hj : j < m.length), j < i → (fun x : Ac => decide (x.id = id)) m[j] = false) m.length ?_ ?_ (by omega) ⟨G0, by simp [maskS], cG0, gG0, by simp⟩
  · rintro i st hi ⟨H2, rfl, c2, gr, ho⟩
    obtain ⟨b, o, c', r, e, g0, g⟩ := SA.all (h.keep c2) (by intro h; simp [h] at hi)
    obtain ⟨z1, z2, z3, z4⟩ := AV.slice.inj e
    subst z1 z3 z4
    obtain ⟨g1, g2, gf⟩ := g i hi
    have hi' : (i : Int) < m.length := by omega
    have w : IntKind.i64.wrap ((i : Int) + 1) = (i : Int) + 1 := wrap_i64 (by omega) (by omega)
    obtain ⟨x, hx⟩ : ∃ x, x = m[i] := ⟨_, rfl⟩
    rw [← hx] at g2 gf
    have f0 := gf 0 (by omega)
    simp only [Ac.cs, Nat.add_zero, List.getElem?_cons_zero] at f0 g2
    have hup : (fun x : Ac => decide (x.id = id)) x = false → ∀ j (hj : j < m.length), j < i + 1 → (fun x : Ac => decide (x.id = id)) m[j] = false := fun hp => no_up (P := fun x : Ac => decide (x.id = id)) hi hx hp ho
    obtain ⟨G, eG⟩ : ∃ G, G = H2 ++ [.cells x.cs .rw] := ⟨_, rfl⟩
    have cG : Chg [] H2 G := by rw [eG]; exact .app _ _
    have rG : rowOf G H2.length = some x.cs := by rw [eG]; simp [Ac.cs]
    have cc := c2.tr cG
    have gr' := cG.get gr (by simp)
    simp only [Ac.cs] at eG rG
    simp [hi', hi, g0, g1, g2]
    rw [← eG]
    have wr : rowRw G 0 H.length = some _ := rowRw_rw gr'
    have hr := rowOf_self (H := G) (b := H.length) (l := [.int .i64 x.id, .int .i64 x.mem, .int .i64 x.kind, .int .i64 x.lim]) (lt_of_get gr')
    by_cases hp : x.id = id
    · have hf : findL m id = some x := by rw [findL, find_at (P := fun x : Ac => decide (x.id = id)) hi (by rw [← hx]; simp [hp]) ho, ← hx]
      rw [← hp] at hf ⊢
      simp [rG, wr, hr, hf, fA, Ac.cs, gcF_flat, cc.set_new (Nat.le_refl _) _]
    · have hu := hup (by simp [hp])
      simp [rG, hp, maskS, w]
      exact ⟨cc, gr', by simpa using hu⟩
  · rintro st ⟨H2, rfl, c2, gr, ho⟩
    have hf : findL m id = none := by rw [findL, find_no ho]
    have wr : rowRw H2 0 H.length = some _ := rowRw_rw gr
    have hr := rowOf_self (H := H2) (b := H.length) (l := [.int .i64 0, .int .i64 0, .int .i64 0, .int .i64 0]) (lt_of_get gr)
    simp [wr, hr, hf, fA, dA, Ac.cs, gcF_flat, c2.set_new (Nat.le_refl _) _]
theorem rfd_ok {v : AV} {m : List Ac} {id : Int} (h : SA H v m) (hl : m.length ≤ 1000000) (hk : m.length + 20 < k) : callA ap k (.func 41 [] []) [v, .int .i64 id] 0 H = some (.tuple [.agg (fA (findL m id)).cs, .bool (findL m id).isSome], H) := by
  obtain ⟨k, rfl⟩ : ∃ k', k = k' + 2 := ⟨k - 2, by omega⟩
  refine Hx.eqn ?_
  rw [hx_gg fn41 rfl, b41]
  obtain ⟨G0, eG0⟩ : ∃ G0, G0 = H ++ [.cells [.int .i64 0, .int .i64 0, .int .i64 0, .int .i64 0] .rw] := ⟨_, rfl⟩
  have cG0 : Chg [] H G0 := by rw [eG0]; exact .app _ _
  have gG0 : G0[H.length]? = some (.cells [.int .i64 0, .int .i64 0, .int .i64 0, .int .i64 0] .rw) := by rw [eG0]; simp
  obtain ⟨a, c, s, rfl⟩ := h.form
  simp
  rw [← eG0]
  refine hx_up (fun i st => ∃ H', st = ⟨sp 25 [(0, .slice a m.length c s), (1, .int .i64 id), (4, .ptr (some (H.length, 0))), (6, .int .i64 i)], H', []⟩ ∧ Chg [] H H' ∧ H'[H.length]? = some (.cells [.int .i64 0, .int .i64 0, .int .i64 0, .int .i64 0] .rw) ∧ ∀ j (hj : j < m.length), j < i → (fun x : Ac => decide (x.id = id)) m[j] = false) m.length ?_ ?_ (by omega) ⟨G0, by simp [maskS], cG0, gG0, by simp⟩
  · rintro i st hi ⟨H2, rfl, c2, gr, ho⟩
    obtain ⟨b, o, c', r, e, g0, g⟩ := SA.all (h.keep c2) (by intro h; simp [h] at hi)
    obtain ⟨z1, z2, z3, z4⟩ := AV.slice.inj e
    subst z1 z3 z4
    obtain ⟨g1, g2, gf⟩ := g i hi
    have hi' : (i : Int) < m.length := by omega
    have w : IntKind.i64.wrap ((i : Int) + 1) = (i : Int) + 1 := wrap_i64 (by omega) (by omega)
    obtain ⟨x, hx⟩ : ∃ x, x = m[i] := ⟨_, rfl⟩
    rw [← hx] at g2 gf
    have f0 := gf 0 (by omega)
    simp only [Ac.cs, Nat.add_zero, List.getElem?_cons_zero] at f0 g2
    have hup : (fun x : Ac => decide (x.id = id)) x = false → ∀ j (hj : j < m.length), j < i + 1 → (fun x : Ac => decide (x.id = id)) m[j] = false := fun hp => no_up (P := fun x : Ac => decide (x.id = id)) hi hx hp ho
    have cc := c2
    have gr' := gr
    have wr : rowRw H2 0 H.length = some _ := rowRw_rw gr'
    have hr := rowOf_self (H := H2) (b := H.length) (l := [.int .i64 x.id, .int .i64 x.mem, .int .i64 x.kind, .int .i64 x.lim]) (lt_of_get gr')
    by_cases hp : x.id = id
    · have hf : findL m id = some x := by rw [findL, find_at (P := fun x : Ac => decide (x.id = id)) hi (by rw [← hx]; simp [hp]) ho, ← hx]
      rw [← hp] at hf ⊢
      simp [hi', hi, g0, g1, g2, f0, wr, hr, hf, fA, Ac.cs, gcF_flat, cc.set_new (Nat.le_refl _) _]
    · have hu := hup (by simp [hp])
      simp [hi', hi, g0, g1, g2, f0, hp, maskS, w]
      exact ⟨cc, gr', by simpa using hu⟩
  · rintro st ⟨H2, rfl, c2, gr, ho⟩
    have hf : findL m id = none := by rw [findL, find_no ho]
    have wr : rowRw H2 0 H.length = some _ := rowRw_rw gr
    have hr := rowOf_self (H := H2) (b := H.length) (l := [.int .i64 0, .int .i64 0, .int .i64 0, .int .i64 0]) (lt_of_get gr)
    simp [wr, hr, hf, fA, dA, Ac.cs, gcF_flat, c2.set_new (Nat.le_refl _) _]
theorem rfind_ok {v : AV} {m : List Ac} {id : Int} (h : SA H v m) (hl : m.length ≤ 1000000) (hk : m.length + 30 < k) : callA ap k (.func 24 [] []) [v, .int .i64 id] 0 H = some (.tuple [.agg (fA (findB m id)).cs, .bool (findB m id).isSome], H) := by
  obtain ⟨k, rfl⟩ : ∃ k', k = k' + 2 := ⟨k - 2, by omega⟩
  refine Hx.eqn ?_
  rw [hx_gg fn24 rfl, b24]
  obtain ⟨G0, eG0⟩ : ∃ G0, G0 = H ++ [.cells [.int .i64 0, .int .i64 0, .int .i64 0, .int .i64 0] .rw] := ⟨_, rfl⟩
  have cG0 : Chg [] H G0 := by rw [eG0]; exact .app _ _
  have gG0 : G0[H.length]? = some (.cells [.int .i64 0, .int .i64 0, .int .i64 0, .int .i64 0] .rw) := by rw [eG0]; simp
  have hm := raccs_ok (k := k + 1) (h.keep cG0) hl (by omega)
  have hf := rfd_ok (k := k + 1) (id := id) (h.keep cG0) hl (by omega)
  obtain ⟨a, c, s, rfl⟩ := h.form
  have wG0 : rowRw G0 0 H.length = some _ := rowRw_rw gG0
  have hr := fun l => rowOf_self (H := G0) (b := H.length) (l := l) (lt_of_get gG0)
  simp
  rw [← eG0]
  cases hmm : accsB m with
  | false =>
    rw [hmm] at hm
    simp [hm, wG0, hr, findB, hmm, fA, dA, Ac.cs, gcF_flat, cG0.set_new (Nat.le_refl _) _]
  | true =>
    rw [hmm] at hm
    have hS : findB m id = findL m id := by rw [findB, hmm]; rfl
    rw [hS]
    simp only [Ac.cs] at hf
    simp [hm, hf, wG0, hr, Ac.cs, gcF_flat, cG0.set_new (Nat.le_refl _) _]
def nextB (s kd : Int) : Int × Bool := if s = 0 ∧ kd = 1 then (1, true) else if s = 1 ∧ kd = 11 then (2, true) else if s = 2 ∧ kd = 12 then (1, true) else if s = 2 ∧ kd = 13 then (3, true) else if s = 3 ∧ kd = 21 then (4, true) else (0, false)
theorem next_ok {s kd : Int} : callA ap (k + 1) (.func 33 [] []) [.int .i64 s, .int .i64 kd] 0 H = some (.tuple [.int .i64 (nextB s kd).1, .bool (nextB s kd).2], H) := by
  refine Hx.eqn ?_
  rw [hx_gg fn33 rfl, b33]
  unfold nextB
  by_cases h0 : s = 0
  · subst h0
    by_cases h : kd = 1 <;> simp [h]
  by_cases h1 : s = 1
  · subst h1
    by_cases h : kd = 11 <;> simp [h]
  by_cases h2 : s = 2
  · subst h2
    by_cases h : kd = 12
    · simp [h]
    · by_cases h' : kd = 13
      · simp [h']
      · simp [h, h']
  by_cases h3 : s = 3
  · subst h3
    by_cases h : kd = 21 <;> simp [h]
  simp [h0, h1, h2, h3]
theorem rnext_ok {s kd : Int} : callA ap (k + 1) (.func 40 [] []) [.int .i64 s, .int .i64 kd] 0 H = some (.tuple [.int .i64 (nextB s kd).1, .bool (nextB s kd).2], H) := by
  refine Hx.eqn ?_
  rw [hx_gg fn40 rfl, b40]
  unfold nextB
  by_cases h0 : s = 0
  · subst h0
    by_cases h : kd = 1 <;> simp [h]
  by_cases h1 : s = 1
  · subst h1
    by_cases h : kd = 11 <;> simp [h]
  by_cases h2 : s = 2
  · subst h2
    by_cases h : kd = 12
    · simp [h]
    · by_cases h' : kd = 13
      · simp [h']
      · simp [h, h']
  by_cases h3 : s = 3
  · subst h3
    by_cases h : kd = 21 <;> simp [h]
  simp [h0, h1, h2, h3]
end
end Go.Proofs.Ytobfodegdbfhdaa.T.Ro
end
section
/-! Which rolls may be; whose accounts they are. -/
set_option linter.unusedVariables false
set_option linter.unusedSimpArgs false
set_option maxHeartbeats 40000000
set_option maxRecDepth 100000
namespace Go.Proofs.Ytobfodegdbfhdaa.T.Ro
open Go Go.Ab
def badS (m : List Mb) (x : Ac) : Bool := decide (stL m x.mem = 0)
def rollB (m : List Mb) (a : List Ac) : Bool := membersB m && (accsB a && !a.any (badS m))
theorem any_no {α : Type} {P : α → Bool} {l : List α} (h : ∀ j (hj : j < l.length), j < l.length → P l[j] = false) : l.any P = false := by
  rw [List.any_eq_false]
  intro x hx
  obtain ⟨j, hj, rfl⟩ := List.getElem_of_mem hx
  rw [h j hj hj]
  simp
theorem any_at {α : Type} {P : α → Bool} {l : List α} {i : Nat} (hi : i < l.length) (h : P l[i] = true) : l.any P = true := List.any_eq_true.2 ⟨l[i], List.getElem_mem hi, h⟩
section
variable {k : Nat} {H : AH}
theorem right_ok {v va : AV} {m : List Mb} {l : List Ac} (h : SM H v m) (ha : SA H va l) (hl : m.length ≤ 1000000) (hl2 : l.length ≤ 1000000) (hk : m.length + l.length + 40 < k) : callA ap k (.func 16 [] []) [v, va] 0 H = some (.bool (rollB m l), H) := by
  obtain ⟨k, rfl⟩ : ∃ k', k = k' + 2 := ⟨k - 2, by omega⟩
  refine Hx.eqn ?_
  rw [hx_gg fn16 rfl, b16]
  have h1 := members_ok (k := k + 1) h hl (by omega)
  have h2 := accs_ok (k := k + 1) ha hl2 (by omega)
  have h3 := fun (H' : AH) (c : Chg [] H H') id => status_ok (k := k + 1) (id := id) (h.keep c) hl (by omega)
  obtain ⟨a, c, s, rfl⟩ := h.form
  obtain ⟨a', c', s', rfl⟩ := ha.form
  cases hmm : membersB m with
  | false =>
    rw [hmm] at h1
    simp [h1, rollB, hmm]
  | true =>
  rw [hmm] at h1
  cases haa : accsB l with
  | false =>
    rw [haa] at h2
    simp [h1, h2, rollB, haa]
  | true =>
  rw [haa] at h2
  have hS : rollB m l = !l.any (badS m) := by rw [rollB, hmm, haa]; rfl
  have hst : ∀ id, statusB m id = stL m id := fun id => by rw [statusB, hmm]; rfl
  rw [hS]
  simp [h1, h2]
  refine hx_up (fun i st => ∃ H', st = ⟨sp 27 [(0, .slice a m.length c s), (15, .slice a' l.length c' s'), (16, .int .i64 l.length), (17, .int .i64 i)], H', []⟩ ∧ Chg [] H H' ∧ ∀ j (hj : j < l.length), j < i → badS m l[j] = false) l.length ?_ ?_ (by omega) ⟨H, by simp [maskS], .refl, by simp⟩
  · rintro i st hi ⟨H2, rfl, c2, ho⟩
    obtain ⟨b, o, c'', r, e, g0, g⟩ := SA.all (ha.keep c2) (by intro h; simp [h] at hi)
    obtain ⟨z1, z2, z3, z4⟩ := AV.slice.inj e
    subst z1 z3 z4
    obtain ⟨g1, g2, gf⟩ := g i hi
    have hi' : (i : Int) < l.length := by omega
    have w : IntKind.i64.wrap ((i : Int) + 1) = (i : Int) + 1 := wrap_i64 (by omega) (by omega)
    obtain ⟨x, hx⟩ : ∃ x, x = l[i] := ⟨_, rfl⟩
    rw [← hx] at g2 gf
    have f1 := gf 1 (by omega)
    simp only [Ac.cs, Nat.add_zero, List.getElem?_cons_zero, List.getElem?_cons_succ] at f1 g2
    obtain ⟨G, eG⟩ : ∃ G, G = H2 ++ [.cells x.cs .rw] := ⟨_, rfl⟩
    have cG : Chg [] H2 G := by rw [eG]; exact .app _ _
    have rG : rowOf G H2.length = some x.cs := by rw [eG]; simp [Ac.cs]
    have cc := c2.tr cG
    have h4 := h3 G cc x.mem
    rw [hst] at h4
    simp only [Ac.cs] at eG rG
    simp [hi', hi, g0, g1, g2]
    rw [← eG]
    by_cases hp : stL m x.mem = 0
    · have hf : l.any (badS m) = true := any_at hi (by rw [← hx]; simp [badS, hp])
      simp [rG, h4, hp, hf, gcF_flat, cc]
    · have hu := no_up (P := badS m) hi hx (by simp [badS, hp]) ho
      simp [rG, h4, hp, maskS, w]
      exact ⟨cc, hu⟩
  · rintro st ⟨H2, rfl, c2, ho⟩
    have hf := any_no ho
    simp [hf, gcF_flat, c2]
theorem rright_ok {v va : AV} {m : List Mb} {l : List Ac} (h : SM H v m) (ha : SA H va l) (hl : m.length ≤ 1000000) (hl2 : l.length ≤ 1000000) (hk : m.length + l.length + 40 < k) : callA ap k (.func 29 [] []) [v, va] 0 H = some (.bool (rollB m l), H) := by
  obtain ⟨k, rfl⟩ : ∃ k', k = k' + 2 := ⟨k - 2, by omega⟩
  refine Hx.eqn ?_
  rw [hx_gg fn29 rfl, b29]
  have h1 := rmembers_ok (k := k + 1) h hl (by omega)
  have h2 := raccs_ok (k := k + 1) ha hl2 (by omega)
  have h3 := fun (H' : AH) (c : Chg [] H H') id => rst_ok (k := k + 1) (id := id) (h.keep c) hl (by omega)
  obtain ⟨a, c, s, rfl⟩ := h.form
  obtain ⟨a', c', s', rfl⟩ := ha.form
  cases hmm : membersB m with
  | false =>
    rw [hmm] at h1
    simp [h1, rollB, hmm]
  | true =>
  rw [hmm] at h1
  cases haa : accsB l with
  | false =>
    rw [haa] at h2
    simp [h1, h2, rollB, haa]
  | true =>
  rw [haa] at h2
  have hS : rollB m l = !l.any (badS m) := by rw [rollB, hmm, haa]; rfl
  have hst : ∀ id, statusB m id = stL m id := fun id => by rw [statusB, hmm]; rfl
  rw [hS]
  simp [h1, h2]
  refine hx_up (fun i st => ∃ H', st = ⟨sp 28 [(0, .slice a m.length c s), (1, .slice a' l.length c' s'), (5, .int .i64 i)], H', []⟩ ∧ Chg [] H H' ∧ ∀ j (hj : j < l.length), j < i → badS m l[j] = false) l.length ?_ ?_ (by omega) ⟨H, by simp [maskS], .refl, by simp⟩
  · rintro i st hi ⟨H2, rfl, c2, ho⟩
    obtain ⟨b, o, c'', r, e, g0, g⟩ := SA.all (ha.keep c2) (by intro h; simp [h] at hi)
    obtain ⟨z1, z2, z3, z4⟩ := AV.slice.inj e
    subst z1 z3 z4
    obtain ⟨g1, g2, gf⟩ := g i hi
    have hi' : (i : Int) < l.length := by omega
    have w : IntKind.i64.wrap ((i : Int) + 1) = (i : Int) + 1 := wrap_i64 (by omega) (by omega)
    obtain ⟨x, hx⟩ : ∃ x, x = l[i] := ⟨_, rfl⟩
    rw [← hx] at g2 gf
    have f1 := gf 1 (by omega)
    simp only [Ac.cs, Nat.add_zero, List.getElem?_cons_zero, List.getElem?_cons_succ] at f1 g2
    have cc := c2
    have h4 := h3 H2 cc x.mem
    by_cases hp : stL m x.mem = 0
    · have hf : l.any (badS m) = true := any_at hi (by rw [← hx]; simp [badS, hp])
      simp [hi', hi, g0, f1, h4, hp, hf, gcF_flat, cc]
    · have hu := no_up (P := badS m) hi hx (by simp [badS, hp]) ho
      simp [hi', hi, g0, f1, h4, hp, maskS, w]
      exact ⟨cc, hu⟩
  · rintro st ⟨H2, rfl, c2, ho⟩
    have hf := any_no ho
    simp [hf, gcF_flat, c2]
end
def ints (l : List Int) : List AV := l.map (AV.int .i64)
@[simp] theorem ints_len {l : List Int} : (ints l).length = l.length := by simp [ints]
theorem ints_snoc (a : List Int) (x : Int) : ints (a ++ [x]) = ints a ++ [.int .i64 x] := by simp [ints]
def ownL (a : List Ac) (mem : Int) : List Int := (a.filter fun x => decide (x.mem = mem)).map Ac.id
def ownB (a : List Ac) (mem : Int) : List Int := if accsB a = true then ownL a mem else []
theorem ownL_up {l : List Ac} {mem : Int} {i : Nat} (hi : i < l.length) : ownL (l.take (i + 1)) mem = ownL (l.take i) mem ++ (if l[i].mem = mem then [l[i].id] else []) := by
  unfold ownL
  rw [List.take_succ_eq_append_getElem hi, List.filter_append, List.map_append]
  by_cases h : l[i].mem = mem <;> simp [h]
theorem ownL_len {l : List Ac} {mem : Int} : (ownL l mem).length ≤ l.length := by
  unfold ownL
  rw [List.length_map]
  exact List.length_filter_le _ _
section
variable {k : Nat} {H : AH}
theorem own_ok {v : AV} {m : List Ac} {mem : Int} (h : SA H v m) (hl : m.length ≤ 1000000) (hk : m.length + 20 < k) : Hx (callA ap k (.func 14 [] []) [v, .int .i64 mem] 0 H) fun r => SL r.2 1 r.1 (ints (ownB m mem)) ∧ Chg [] H r.2 := by
  obtain ⟨k, rfl⟩ : ∃ k', k = k' + 2 := ⟨k - 2, by omega⟩
  rw [hx_go fn14 rfl, b14]
  have hm := accs_ok (k := k + 1) h hl (by omega)
  obtain ⟨a, c, s, rfl⟩ := h.form
  cases hmm : accsB m with
  | false =>
    rw [hmm] at hm
    have hS : ownB m mem = [] := by rw [ownB, hmm]; rfl
    rw [hS]
    simp [hm]
    exact ⟨.nil _ _, .refl⟩
  | true =>
  rw [hmm] at hm
  have hS : ownB m mem = ownL m mem := by rw [ownB, hmm]; rfl
  rw [hS]
  simp [hm]
  refine hx_up (fun i st => ∃ H' w, st = ⟨sp 28 [(1, .int .i64 mem), (5, w), (11, .slice a m.length c s), (12, .int .i64 m.length), (13, .int .i64 i)], H', []⟩ ∧ Mine H' 1 w (ints (ownL (m.take i) mem)) ∧ (∀ b ∈ blk w, H.length ≤ b) ∧ Chg [] H H') m.length ?_ ?_ (by omega) ⟨H, .slice none 0 (some 0) 0, by simp [maskS], .nil _ _, by simp, .refl⟩
  · rintro i st hi ⟨H2, w, rfl, hw, hb, c2⟩
    obtain ⟨b, o, c', r, e, g0, g⟩ := SA.all (h.keep c2) (by intro h; simp [h] at hi)
    obtain ⟨z1, z2, z3, z4⟩ := AV.slice.inj e
    subst z1 z3 z4
    obtain ⟨g1, g2, gf⟩ := g i hi
    have hi' : (i : Int) < m.length := by omega
    have wi : IntKind.i64.wrap ((i : Int) + 1) = (i : Int) + 1 := wrap_i64 (by omega) (by omega)
    have hup := ownL_up (mem := mem) hi
    obtain ⟨x, hx⟩ : ∃ x, x = m[i] := ⟨_, rfl⟩
    rw [← hx] at g2 gf hup
    have f0 := gf 0 (by omega)
    have f1 := gf 1 (by omega)
    simp only [Ac.cs, Nat.add_zero, List.getElem?_cons_zero, List.getElem?_cons_succ] at f0 f1 g2
    have hol : (ownL (m.take i) mem).length ≤ m.length := Nat.le_trans ownL_len (by simp; omega)
    obtain ⟨aw, cw, sw, ew⟩ := hw.sl.form1
    rw [ints_len] at ew
    obtain ⟨G, eG⟩ : ∃ G, G = H2 ++ [.cells x.cs .rw] := ⟨_, rfl⟩
    have cG : Chg [] H2 G := by rw [eG]; exact .app _ _
    have rG : rowOf G H2.length = some x.cs := by rw [eG]; simp [Ac.cs]
    have cc := c2.tr cG
    have hwG := hw.keep cG
    simp only [Ac.cs] at eG rG
    simp [hi', hi, g0, g1, g2, ew]
    rw [← eG]
    by_cases hp : x.mem = mem
    · rw [if_pos hp] at hup
      obtain ⟨V, eV⟩ : ∃ V, V = G ++ [.cells [.int .i64 x.id] .pl] := ⟨_, rfl⟩
      have cV : Chg [] G V := by rw [eV]; exact .app _ _
      have slY : SL V 1 (.slice (some (G.length, 0)) 1 (some 1) 1) [.int .i64 x.id] := .at_ _ 0 1 (some 1) [.int .i64 x.id] _ (by omega) (by rw [eV]; simp [rowOf]) (by simp) (by simp) (by simp)
      have happ := (hwG.keep cV).append slY (by_ := 8) (by omega) (by omega) (by simp) (by simp [room]; omega)
      rw [← ints_snoc, ← hup, ew] at happ
      simp [rG, hp]
      rw [← eV]
      refine Hx.mapp happ ?_
      rintro ⟨w2, H4⟩ ⟨t1, t2, t3⟩
      simp only at t1 t2 t3
      obtain ⟨aw2, cw2, sw2, ew2⟩ := t1.sl.form1
      rw [ints_len] at ew2
      rw [ew2] at t1 t3 ⊢
      simp [maskS, wi]
      exact ⟨H4, _, ⟨rfl, rfl⟩, t1, fun b hb' => by
        rcases t3 b hb' with h' | h'
        · exact hb b (by rw [ew]; exact h')
        · have := cV.1; have := cc.1; omega, (cc.tr cV).trans t2 (fun i hi => .inr (hb i (by rw [ew]; exact hi)))⟩
    · rw [if_neg hp, List.append_nil] at hup
      simp [rG, hp, maskS, wi]
      exact ⟨G, w, ⟨ew.symm, rfl⟩, by rw [hup]; exact hwG, hb, cc⟩
  · rintro st ⟨H2, w, rfl, hw, hb, c2⟩
    rw [List.take_length] at hw
    obtain ⟨aw, cw, sw, ew⟩ := hw.sl.form1
    rw [ints_len] at ew
    subst ew
    simp
    exact ⟨hw.sl, c2⟩
theorem rown_ok {v : AV} {m : List Ac} {mem : Int} (h : SA H v m) (hl : m.length ≤ 1000000) (hk : m.length + 20 < k) : Hx (callA ap k (.func 32 [] []) [v, .int .i64 mem] 0 H) fun r => SL r.2 1 r.1 (ints (ownB m mem)) ∧ Chg [] H r.2 := by
  obtain ⟨k, rfl⟩ : ∃ k', k = k' + 2 := ⟨k - 2, by omega⟩
  rw [hx_go fn32 rfl, b32]
  have hm := raccs_ok (k := k + 1) h hl (by omega)
  obtain ⟨a, c, s, rfl⟩ := h.form
  cases hmm : accsB m with
  | false =>
    rw [hmm] at hm
    have hS : ownB m mem = [] := by rw [ownB, hmm]; rfl
    rw [hS]
    simp [hm]
    exact ⟨.nil _ _, .refl⟩
  | true =>
  rw [hmm] at hm
  have hS : ownB m mem = ownL m mem := by rw [ownB, hmm]; rfl
  rw [hS]
  simp [hm]
  refine hx_up (fun i st => ∃ H' w, st = ⟨sp 33 [(0, .slice a m.length c s), (1, .int .i64 mem), (5, w), (6, .int .i64 i)], H', []⟩ ∧ Mine H' 1 w (ints (ownL (m.take i) mem)) ∧ (∀ b ∈ blk w, H.length ≤ b) ∧ Chg [] H H') m.length ?_ ?_ (by omega) ⟨H, .slice none 0 (some 0) 0, by simp [maskS], .nil _ _, by simp, .refl⟩
  · rintro i st hi ⟨H2, w, rfl, hw, hb, c2⟩
    obtain ⟨b, o, c', r, e, g0, g⟩ := SA.all (h.keep c2) (by intro h; simp [h] at hi)
    obtain ⟨z1, z2, z3, z4⟩ := AV.slice.inj e
    subst z1 z3 z4
    obtain ⟨g1, g2, gf⟩ := g i hi
    have hi' : (i : Int) < m.length := by omega
    have wi : IntKind.i64.wrap ((i : Int) + 1) = (i : Int) + 1 := wrap_i64 (by omega) (by omega)
    have hup := ownL_up (mem := mem) hi
    obtain ⟨x, hx⟩ : ∃ x, x = m[i] := ⟨_, rfl⟩
    rw [← hx] at g2 gf hup
    have f0 := gf 0 (by omega)
    have f1 := gf 1 (by omega)
    simp only [Ac.cs, Nat.add_zero, List.getElem?_cons_zero, List.getElem?_cons_succ] at f0 f1 g2
    have hol : (ownL (m.take i) mem).length ≤ m.length := Nat.le_trans ownL_len (by simp; omega)
    obtain ⟨aw, cw, sw, ew⟩ := hw.sl.form1
    rw [ints_len] at ew
    have cc := c2
    have hwG := hw
    by_cases hp : x.mem = mem
    · rw [if_pos hp] at hup
      obtain ⟨V, eV⟩ : ∃ V, V = H2 ++ [.cells [.int .i64 x.id] .pl] := ⟨_, rfl⟩
      have cV : Chg [] H2 V := by rw [eV]; exact .app _ _
      have slY : SL V 1 (.slice (some (H2.length, 0)) 1 (some 1) 1) [.int .i64 x.id] := .at_ _ 0 1 (some 1) [.int .i64 x.id] _ (by omega) (by rw [eV]; simp [rowOf]) (by simp) (by simp) (by simp)
      have happ := (hwG.keep cV).append slY (by_ := 8) (by omega) (by omega) (by simp) (by simp [room]; omega)
      rw [← ints_snoc, ← hup, ew] at happ
      simp [hi', hi, g0, f0, f1, ew, hp]
      rw [← eV]
      refine Hx.mapp happ ?_
      rintro ⟨w2, H4⟩ ⟨t1, t2, t3⟩
      simp only at t1 t2 t3
      obtain ⟨aw2, cw2, sw2, ew2⟩ := t1.sl.form1
      rw [ints_len] at ew2
      rw [ew2] at t1 t3 ⊢
      simp [maskS, wi]
      exact ⟨H4, _, ⟨rfl, rfl⟩, t1, fun b hb' => by
        rcases t3 b hb' with h' | h'
        · exact hb b (by rw [ew]; exact h')
        · have := cV.1; have := cc.1; omega, (cc.tr cV).trans t2 (fun i hi => .inr (hb i (by rw [ew]; exact hi)))⟩
    · rw [if_neg hp, List.append_nil] at hup
      simp [hi', hi, g0, f0, f1, ew, hp, maskS, wi]
      exact ⟨H2, w, ⟨ew.symm, rfl⟩, by rw [hup]; exact hwG, hb, cc⟩
  · rintro st ⟨H2, w, rfl, hw, hb, c2⟩
    rw [List.take_length] at hw
    obtain ⟨aw, cw, sw, ew⟩ := hw.sl.form1
    rw [ints_len] at ew
    subst ew
    simp
    exact ⟨hw.sl, c2⟩
end
end Go.Proofs.Ytobfodegdbfhdaa.T.Ro
end
section
/-! Clone and Insert. -/
set_option linter.unusedVariables false
set_option linter.unusedSimpArgs false
set_option maxHeartbeats 40000000
set_option maxRecDepth 100000
namespace Go.Proofs.Ytobfodegdbfhdaa.T.Ro
open Go Go.Ab
section
variable {k : Nat} {H : AH}
/-- What Clone gives. -/
def ClMb (H : AH) (w : AV) (l : List Mb) : Prop := OwnMb H w l ∨ (l = [] ∧ ∃ b, w = .slice (some (b, 0)) 0 (some 0) 2 ∧ rowOf H b = some [])
theorem ClMb.so {w : AV} {l : List Mb} (h : ClMb H w l) : SM H w l := by
  rcases h with h | ⟨rfl, b, rfl, h⟩
  · exact h.so
  · exact SL.cap0 (by omega) h (by simp)
theorem ClMb.chg {F : List Nat} {H' : AH} {w : AV} {l : List Mb} (h : ClMb H w l) (c : Chg F H H') (hF : ∀ i ∈ blk w, i ∉ F) : ClMb H' w l := by
  rcases h with h | ⟨rfl, b, rfl, h⟩
  · exact .inl (h.chg c hF)
  · exact .inr ⟨rfl, b, rfl, c.row h (hF b (by simp))⟩
theorem clMb_ok {v : AV} {l : List Mb} (h : SM H v l) (hl : l.length ≤ 1000000) :
    Hx (callA ap (k + 1) (.func 35 [] []) [v] 0 H) fun r => Chg [] H r.2 ∧ ClMb r.2 r.1 l ∧ ∀ i ∈ blk r.1, H.length ≤ i := by
  rw [hx_go fn35 rfl, b35]
  obtain ⟨a, c, s, rfl⟩ := h.form
  cases a with
  | none =>
    have h0 : l = [] := by
      by_cases h0 : l = []
      · exact h0
      · obtain ⟨b, o, c', r, e, -⟩ := SM.all h h0
        cases e
    subst h0
    simp [eqV]
    exact ⟨.refl, .inl (.inl ⟨_, _, rfl, rfl⟩)⟩
  | some p =>
    have hap := appendMb0 (H := H ++ [.cells [] .pl]) (b := H.length) (by simp [rowOf]) (h.keep (.app _ _)) hl
    by_cases h0 : l = []
    · subst h0
      rw [if_pos rfl] at hap
      simp only [List.length_nil] at hap
      simp [eqV, hap]
      exact ⟨.app _ _, .inr ⟨rfl, _, rfl, by simp [rowOf]⟩⟩
    · rw [if_neg h0] at hap
      simp [eqV, hap]
      exact ⟨.app _ _, .inl (.inr ⟨_, rfl, by simp⟩)⟩
theorem insMb_ok {w : AV} {own : List Mb} {bv i : Nat} {o : Mb} (h : ClMb H w own) (hv : H[bv]? = some (.cells o.cs .pl)) (hi : i ≤ own.length) (hl : own.length ≤ 1000000) (hb : bv ∉ blk w) :
    Hx (callA ap (k + 1) (.func 34 [] []) [w, .int .i64 i, .slice (some (bv, 0)) 1 (some 1) 2] 0 H) fun r => SM r.2 r.1 (own.take i ++ o :: own.drop i) ∧ Chg (blk w) H r.2 := by
  rcases h with h | ⟨rfl, b, rfl, h⟩
  · obtain ⟨w', H', e, h1, h2, h3⟩ := insertMb_ok (k := k) h hv hi hl hb
    rw [e]
    exact Hx.som ⟨h1.so, h2⟩
  · have : i = 0 := by simpa using hi
    subst this
    rw [call_insMb]
    unfold insX
    simp only [hv, h]
    have hr : refsL o.cs = [] := by simp [Mb.cs]
    rw [if_pos (by simp [Mb.cs]), if_pos (by simp)]
    refine Hx.som ⟨?_, (Chg.app _ _)⟩
    exact SL.mk (by omega) (by simp [Mb.cs, mbsC]) (by simp [Mb.cs, mbsC]) (by simp [Mb.cs, mbsC])
/-- What Clone gives. -/
def ClAc (H : AH) (w : AV) (l : List Ac) : Prop := OwnAc H w l ∨ (l = [] ∧ ∃ b, w = .slice (some (b, 0)) 0 (some 0) 4 ∧ rowOf H b = some [])
theorem ClAc.so {w : AV} {l : List Ac} (h : ClAc H w l) : SA H w l := by
  rcases h with h | ⟨rfl, b, rfl, h⟩
  · exact h.so
  · exact SL.cap0 (by omega) h (by simp)
theorem ClAc.chg {F : List Nat} {H' : AH} {w : AV} {l : List Ac} (h : ClAc H w l) (c : Chg F H H') (hF : ∀ i ∈ blk w, i ∉ F) : ClAc H' w l := by
  rcases h with h | ⟨rfl, b, rfl, h⟩
  · exact .inl (h.chg c hF)
  · exact .inr ⟨rfl, b, rfl, c.row h (hF b (by simp))⟩
theorem clAc_ok {v : AV} {l : List Ac} (h : SA H v l) (hl : l.length ≤ 1000000) :
    Hx (callA ap (k + 1) (.func 37 [] []) [v] 0 H) fun r => Chg [] H r.2 ∧ ClAc r.2 r.1 l ∧ ∀ i ∈ blk r.1, H.length ≤ i := by
  rw [hx_go fn37 rfl, b37]
  obtain ⟨a, c, s, rfl⟩ := h.form
  cases a with
  | none =>
    have h0 : l = [] := by
      by_cases h0 : l = []
      · exact h0
      · obtain ⟨b, o, c', r, e, -⟩ := SA.all h h0
        cases e
    subst h0
    simp [eqV]
    exact ⟨.refl, .inl (.inl ⟨_, _, rfl, rfl⟩)⟩
  | some p =>
    have hap := appendAc0 (H := H ++ [.cells [] .pl]) (b := H.length) (by simp [rowOf]) (h.keep (.app _ _)) hl
    by_cases h0 : l = []
    · subst h0
      rw [if_pos rfl] at hap
      simp only [List.length_nil] at hap
      simp [eqV, hap]
      exact ⟨.app _ _, .inr ⟨rfl, _, rfl, by simp [rowOf]⟩⟩
    · rw [if_neg h0] at hap
      simp [eqV, hap]
      exact ⟨.app _ _, .inl (.inr ⟨_, rfl, by simp⟩)⟩
theorem insAc_ok {w : AV} {own : List Ac} {bv i : Nat} {o : Ac} (h : ClAc H w own) (hv : H[bv]? = some (.cells o.cs .pl)) (hi : i ≤ own.length) (hl : own.length ≤ 1000000) (hb : bv ∉ blk w) :
    Hx (callA ap (k + 1) (.func 36 [] []) [w, .int .i64 i, .slice (some (bv, 0)) 1 (some 1) 4] 0 H) fun r => SA r.2 r.1 (own.take i ++ o :: own.drop i) ∧ Chg (blk w) H r.2 := by
  rcases h with h | ⟨rfl, b, rfl, h⟩
  · obtain ⟨w', H', e, h1, h2, h3⟩ := insertAc_ok (k := k) h hv hi hl hb
    rw [e]
    exact Hx.som ⟨h1.so, h2⟩
  · have : i = 0 := by simpa using hi
    subst this
    rw [call_insAc]
    unfold insX
    simp only [hv, h]
    have hr : refsL o.cs = [] := by simp [Ac.cs]
    rw [if_pos (by simp [Ac.cs]), if_pos (by simp)]
    refine Hx.som ⟨?_, (Chg.app _ _)⟩
    exact SL.mk (by omega) (by simp [Ac.cs, acsC]) (by simp [Ac.cs, acsC]) (by simp [Ac.cs, acsC])
end
end Go.Proofs.Ytobfodegdbfhdaa.T.Ro
end
section
/-! with, Turn, Limit, Port of the program. -/
set_option linter.unusedVariables false
set_option linter.unusedSimpArgs false
set_option maxHeartbeats 40000000
set_option maxRecDepth 100000
namespace Go.Proofs.Ytobfodegdbfhdaa.T.Ro
open Go Go.Ab
def wA (x y : Ac) : Ac := if y.id = x.id then x else y
def turnM (id s : Int) (y : Mb) : Mb := if y.id = id then { y with st := s } else y
def turnB (m : List Mb) (id kd : Int) : List Mb × Int := if membersB m = true then (if stL m id = 0 then ([], 3) else if (nextB (stL m id) kd).2 = true then (m.map (turnM id (nextB (stL m id) kd).1), 0) else ([], 8)) else ([], 1)
def limitB (a : List Ac) (id q : Int) : List Ac × Int := if accsB a = true ∧ 0 ≤ q ∧ q ≤ 1000000000000 then (match findL a id with | some x => (a.map (wA { x with lim := q }), 0) | none => ([], 3)) else ([], 1)
def portB (m : List Mb) (a : List Ac) (id to : Int) : List Ac × Int := if rollB m a = true then (match findL a id with | some x => (if stL m to = 0 then ([], 3) else if x.kind ≠ 2 then ([], 8) else if stL m to ≠ 1 then ([], 7) else (a.map (wA { x with mem := to }), 0)) | none => ([], 3)) else ([], 1)
def stepL {α : Type} (f : α → α) (l : List α) (i : Nat) : List α := (l.take i).map f ++ l.drop i
theorem stepL_zero {α : Type} {f : α → α} {l : List α} : stepL f l 0 = l := by simp [stepL]
theorem stepL_all {α : Type} {f : α → α} {l : List α} : stepL f l l.length = l.map f := by simp [stepL]
theorem stepL_len {α : Type} {f : α → α} {l : List α} {i : Nat} (hi : i ≤ l.length) : (stepL f l i).length = l.length := by simp [stepL]; omega
theorem stepL_get {α : Type} {f : α → α} {l : List α} {i : Nat} (hi : i < l.length) : (stepL f l i)[i]? = some l[i] := by
  rw [stepL, List.getElem?_append_right (by simp; omega)]
  simp only [List.length_map, List.length_take]
  rw [show i - min i l.length = 0 by omega, List.getElem?_drop, Nat.add_zero, List.getElem?_eq_getElem hi]
theorem stepL_set {α : Type} {f : α → α} {l : List α} {i : Nat} {y : α} (hi : i < l.length) (hy : y = f l[i]) : (stepL f l i).set i y = stepL f l (i + 1) := by
  have hd : l.drop i = l[i] :: l.drop (i + 1) := List.drop_eq_getElem_cons hi
  unfold stepL
  rw [hd, List.set_append_right _ _ (by simp; omega), List.take_succ_eq_append_getElem hi, List.map_append]
  have : i - ((l.take i).map f).length = 0 := by simp; omega
  rw [this, List.set_cons_zero, hy]
  simp
theorem stepL_same {α : Type} {f : α → α} {l : List α} {i : Nat} (hi : i < l.length) (hy : l[i] = f l[i]) : stepL f l (i + 1) = stepL f l i := by
  rw [← stepL_set (y := l[i]) hi hy]
  refine List.ext_getElem? fun q => ?_
  by_cases hq : i = q
  · subst hq
    rw [List.getElem?_set_self (by rw [stepL_len (by omega)]; exact hi), stepL_get hi]
  · rw [List.getElem?_set_ne hq]
theorem acs_set {l : List Ac} {i : Nat} {x : Ac} (hi : i < l.length) : (acsC l).take (i * 4) ++ (x.cs ++ (acsC l).drop (i * 4 + 4)) = acsC (l.set i x) := by
  have e1 : l.set i x = l.take i ++ x :: l.drop (i + 1) := by rw [List.set_eq_take_append_cons_drop, if_pos hi]
  rw [e1, acsC_take, show i * 4 + 4 = (i + 1) * 4 by omega, acsC_drop, acsC_app]
  rfl
theorem mbs_set {l : List Mb} {i : Nat} {z : Int} (hi : i < l.length) : (mbsC l).take (i * 2 + 1) ++ (.int .i64 z :: (mbsC l).drop (i * 2 + 1 + 1)) = mbsC (l.set i { l[i] with st := z }) := by
  have e1 : l.set i { l[i] with st := z } = l.take i ++ { l[i] with st := z } :: l.drop (i + 1) := by rw [List.set_eq_take_append_cons_drop, if_pos hi]
  have hl : l = l.take i ++ l[i] :: l.drop (i + 1) := by rw [← List.drop_eq_getElem_cons hi, List.take_append_drop]
  have hc : mbsC l = mbsC (l.take i) ++ (.int .i64 l[i].id :: .int .i64 l[i].st :: mbsC (l.drop (i + 1))) := by
    conv => lhs; rw [hl]
    rw [mbsC_app]
    rfl
  have hlen : (mbsC (l.take i)).length = i * 2 := by simp; omega
  rw [e1, mbsC_app, hc, show i * 2 + 1 = (mbsC (l.take i)).length + 1 by omega, List.take_length_add_append, Nat.add_assoc, List.drop_length_add_append]
  simp [Mb.cs, mbsC]
section
variable {k : Nat} {H : AH}
theorem with_ok {v : AV} {l : List Ac} {x : Ac} (h : SA H v l) (hl : l.length ≤ 1000000) (hk : l.length + 20 < k) : Hx (callA ap k (.func 38 [] []) [v, .agg x.cs] 0 H) fun r => SA r.2 r.1 (l.map (wA x)) ∧ Chg [] H r.2 := by
  obtain ⟨k, rfl⟩ : ∃ k', k = k' + 3 := ⟨k - 3, by omega⟩
  rw [hx_go fn38 rfl, b38]
  obtain ⟨a, c, s, rfl⟩ := h.form
  obtain ⟨G, eG⟩ : ∃ G, G = H ++ [.cells x.cs .rw] := ⟨_, rfl⟩
  have cG : Chg [] H G := by rw [eG]; exact .app _ _
  have rG : rowOf G H.length = some x.cs := by rw [eG]; simp [Ac.cs]
  have lG : G.length = H.length + 1 := by rw [eG]; simp
  simp only [Ac.cs] at eG
  simp [Ac.cs]
  rw [← eG]
  refine Hx.mapp (clAc_ok (k := k + 1) (h.keep cG) hl) ?_
  rintro ⟨w, H1⟩ ⟨c1, t1, t2⟩
  simp only at c1 t1 t2
  by_cases h0 : l = []
  · subst h0
    obtain ⟨a1, cc, s1, rfl⟩ := t1.so.form
    simp
    refine hx_up (fun i st => ∃ H', st = ⟨sp 28 [(3, .ptr (some (H.length, 0))), (5, .slice a1 0 cc s1), (10, .int .i64 0), (11, .int .i64 i)], H', []⟩ ∧ Chg [] H1 H') 0 (fun i st hi => by omega) ?_ (by omega) ⟨H1, by simp [maskS], .refl⟩
    rintro st ⟨H2, rfl, c2⟩
    simp
    exact ⟨t1.so.keep c2, cG.tr (c1.tr c2)⟩
  · obtain ⟨b, rfl, g1⟩ : ∃ b, w = .slice (some (b, 0)) l.length none 4 ∧ H1[b]? = some (.cells (acsC l) .rw) := by
      rcases t1 with (⟨c, s, rfl, e⟩ | h) | ⟨e, -⟩
      · exact (h0 e).elim
      · exact h
      · exact (h0 e).elim
    have hbG : G.length ≤ b := t2 b (by simp)
    simp
    refine hx_up (fun i st => ∃ H', st = ⟨sp 28 [(3, .ptr (some (H.length, 0))), (5, .slice (some (b, 0)) l.length none 4), (10, .int .i64 l.length), (11, .int .i64 i)], H', []⟩ ∧ Chg [b] H1 H' ∧ H'[b]? = some (.cells (acsC (stepL (wA x) l i)) .rw)) l.length ?_ ?_ (by omega) ⟨H1, by simp [maskS], .refl, by rw [stepL_zero]; exact g1⟩
    · rintro i st hi ⟨H2, rfl, c2, g2⟩
      have hi' : (i : Int) < l.length := by omega
      have w : IntKind.i64.wrap ((i : Int) + 1) = (i : Int) + 1 := wrap_i64 (by omega) (by omega)
      obtain ⟨cur, ecur⟩ : ∃ cur, cur = stepL (wA x) l i := ⟨_, rfl⟩
      have hcl : cur.length = l.length := by rw [ecur]; exact stepL_len (by omega)
      have hci : cur[i]? = some l[i] := by rw [ecur]; exact stepL_get hi
      have hcg : cur[i]'(by omega) = l[i] := by rw [List.getElem?_eq_getElem (by omega)] at hci; exact Option.some.inj hci
      have hso : SA H2 (.slice (some (b, 0)) l.length none 4) cur := SL.mk (by omega) (rowOf_rw (by rw [g2, ecur])) (by simp; omega) (by simp)
      obtain ⟨b', o', c', r, e, q0, qq⟩ := SA.all hso (by intro h; rw [h] at hcl; simp at hcl; omega)
      obtain ⟨z1, z2, z3, z4⟩ := AV.slice.inj e
      obtain ⟨rfl, rfl⟩ : b' = b ∧ o' = 0 := by simp at z1; omega
      obtain ⟨-, -, gf⟩ := qq i (by omega)
      rw [hcg] at gf
      obtain ⟨y, hy⟩ : ∃ y, y = l[i] := ⟨_, rfl⟩
      rw [← hy] at gf
      have f0 := gf 0 (by omega)
      simp only [Ac.cs, Nat.zero_add, Nat.add_zero, List.getElem?_cons_zero] at f0
      have hr : r = acsC cur := by rw [rowOf_rw (by rw [g2, ← ecur])] at q0; exact (Option.some.inj q0).symm
      simp [hi', hi]
      refine hx_drawn dc38_5 fun X cX _ _ => ?_
      have rX := (c2.trans cX (F := [b']) (by simp)).row (c1.row rG (by simp)) (by simp; omega)
      have gX := cX.get g2 (by simp)
      rw [← ecur] at gX
      have qX := rowOf_rw gX
      have wX : rowRw X 0 b' = some _ := rowRw_rw gX
      rw [hr] at f0
      by_cases hp : y.id = x.id
      · have hset := acs_set (l := cur) (i := i) (x := x) (by omega)
        have hle : i * 4 + 4 ≤ 4 * cur.length := by omega
        rw [ecur, stepL_set (f := wA x) (y := x) hi (by rw [← hy, wA, if_pos hp]), ← ecur] at hset
        simp only [Ac.cs, List.cons_append, List.nil_append] at rX hset
        simp [d38_5, hi', hi, qX, rX, f0, hp, wX, hle, maskS, w]
        exact ⟨(c2.trans cX (by simp)).tr' (.set _ _ _), by rw [List.getElem?_set_self (lt_of_get gX), hset]⟩
      · have hn := stepL_same (f := wA x) hi (by rw [← hy, wA, if_neg hp])
        simp only [Ac.cs] at rX
        simp [d38_5, hi', hi, qX, rX, f0, hp, maskS, w]
        exact ⟨c2.trans cX (by simp), by rw [hn, ← ecur]; exact gX⟩
    · rintro st ⟨H2, rfl, c2, g2⟩
      rw [stepL_all] at g2
      simp
      exact ⟨SL.mk (by omega) (rowOf_rw g2) (by simp; omega) (by simp), (cG.tr c1).trans c2 (fun i hi => .inr (by simp at hi; omega))⟩
end
end Go.Proofs.Ytobfodegdbfhdaa.T.Ro
end
section
/-! Turn, Limit, Port of the program. -/
set_option linter.unusedVariables false
set_option linter.unusedSimpArgs false
set_option maxHeartbeats 40000000
set_option maxRecDepth 100000
namespace Go.Proofs.Ytobfodegdbfhdaa.T.Ro
open Go Go.Ab
section
variable {k : Nat} {H : AH}
theorem turn_ok {v : AV} {m : List Mb} {id kd : Int} (h : SM H v m) (hl : m.length ≤ 1000000) (hk : m.length + 40 < k) : Hx (callA ap k (.func 10 [] []) [v, .int .i64 id, .int .i64 kd] 0 H) fun r => ∃ vr, r.1 = .tuple [vr, .int .i64 (turnB m id kd).2] ∧ SM r.2 vr (turnB m id kd).1 ∧ Chg [] H r.2 := by
  obtain ⟨k, rfl⟩ : ∃ k', k = k' + 3 := ⟨k - 3, by omega⟩
  rw [hx_go fn10 rfl, b10]
  have h1 := members_ok (k := k + 2) h hl (by omega)
  have h2 := status_ok (k := k + 2) (id := id) h hl (by omega)
  have h3 := fun s => @next_ok (k + 1) H s kd
  obtain ⟨a, c, s, rfl⟩ := h.form
  cases hmm : membersB m with
  | false =>
    have hA : turnB m id kd = ([], 1) := by rw [turnB, hmm]; rfl
    rw [hA]
    rw [hmm] at h1
    simp [h1]
    exact ⟨.nil _ _, .refl⟩
  | true =>
  rw [hmm] at h1
  have hst : statusB m id = stL m id := by rw [statusB, hmm]; rfl
  rw [hst] at h2
  by_cases h0 : stL m id = 0
  · have hA : turnB m id kd = ([], 3) := by rw [turnB, hmm, if_pos rfl, if_pos h0]
    rw [hA]
    simp [h1, h2, h0]
    exact ⟨.nil _ _, .refl⟩
  have h4 := h3 (stL m id)
  cases hn : (nextB (stL m id) kd).2 with
  | false =>
    have hA : turnB m id kd = ([], 8) := by rw [turnB, hmm, if_pos rfl, if_neg h0, hn]; rfl
    rw [hA]
    rw [hn] at h4
    simp [h1, h2, h0, h4]
    exact ⟨.nil _ _, .refl⟩
  | true =>
  obtain ⟨ns, ens⟩ : ∃ ns, ns = (nextB (stL m id) kd).1 := ⟨_, rfl⟩
  have hA : turnB m id kd = (m.map (turnM id ns), 0) := by rw [turnB, hmm, if_pos rfl, if_neg h0, hn, if_pos rfl, ens]
  rw [hA]
  rw [hn, ← ens] at h4
  simp [h1, h2, h0, h4]
  refine Hx.mapp (clMb_ok (k := k + 1) h hl) ?_
  rintro ⟨w, H1⟩ ⟨c1, t1, t2⟩
  simp only at c1 t1 t2
  by_cases hm0 : m = []
  · subst hm0
    exact (h0 rfl).elim
  · obtain ⟨b, rfl, g1⟩ : ∃ b, w = .slice (some (b, 0)) m.length none 2 ∧ H1[b]? = some (.cells (mbsC m) .rw) := by
      rcases t1 with (⟨c, s, rfl, e⟩ | h) | ⟨e, -⟩
      · exact (hm0 e).elim
      · exact h
      · exact (hm0 e).elim
    have hbG : H.length ≤ b := t2 b (by simp)
    simp
    refine hx_up (fun i st => ∃ H', st = ⟨sp 50 [(1, .int .i64 id), (9, .int .i64 ns), (11, .slice (some (b, 0)) m.length none 2), (32, .int .i64 m.length), (33, .int .i64 i)], H', []⟩ ∧ Chg [b] H1 H' ∧ H'[b]? = some (.cells (mbsC (stepL (turnM id ns) m i)) .rw)) m.length ?_ ?_ (by omega) ⟨H1, by simp [maskS], .refl, by rw [stepL_zero]; exact g1⟩
    · rintro i st hi ⟨H2, rfl, c2, g2⟩
      have hi' : (i : Int) < m.length := by omega
      have w : IntKind.i64.wrap ((i : Int) + 1) = (i : Int) + 1 := wrap_i64 (by omega) (by omega)
      obtain ⟨cur, ecur⟩ : ∃ cur, cur = stepL (turnM id ns) m i := ⟨_, rfl⟩
      have hcl : cur.length = m.length := by rw [ecur]; exact stepL_len (by omega)
      have hci : cur[i]? = some m[i] := by rw [ecur]; exact stepL_get hi
      have hcg : cur[i]'(by omega) = m[i] := by rw [List.getElem?_eq_getElem (by omega)] at hci; exact Option.some.inj hci
      have hso : SM H2 (.slice (some (b, 0)) m.length none 2) cur := SL.mk (by omega) (rowOf_rw (by rw [g2, ecur])) (by simp; omega) (by simp)
      obtain ⟨b', o', c', r, e, q0, qq⟩ := SM.all hso (by intro h; rw [h] at hcl; simp at hcl; omega)
      obtain ⟨z1, z2, z3, z4⟩ := AV.slice.inj e
      obtain ⟨rfl, rfl⟩ : b' = b ∧ o' = 0 := by simp at z1; omega
      obtain ⟨-, -, gf⟩ := qq i (by omega)
      rw [hcg] at gf
      obtain ⟨y, hy⟩ : ∃ y, y = m[i] := ⟨_, rfl⟩
      rw [← hy] at gf
      have f0 := gf 0 (by omega)
      simp only [Mb.cs, Nat.zero_add, Nat.add_zero, List.getElem?_cons_zero] at f0
      have hr : r = mbsC cur := by rw [rowOf_rw (by rw [g2, ← ecur])] at q0; exact (Option.some.inj q0).symm
      rw [← ecur] at g2
      have qX := rowOf_rw g2
      have wX : rowRw H2 0 b' = some _ := rowRw_rw g2
      rw [hr] at f0
      by_cases hp : y.id = id
      · have hset := mbs_set (l := cur) (i := i) (z := ns) (by omega)
        have hle : i * 2 + 1 + 1 ≤ 2 * cur.length := by omega
        rw [hcg, ← hy, ecur, stepL_set (f := turnM id ns) (y := { y with st := ns }) hi (by rw [← hy, turnM, if_pos hp]), ← ecur] at hset
        simp [hi', hi, qX, f0, hp, wX, hle, maskS, w]
        exact ⟨c2.tr' (.set _ _ _), by rw [List.getElem?_set_self (lt_of_get g2), hset]⟩
      · have hn := stepL_same (f := turnM id ns) hi (by rw [← hy, turnM, if_neg hp])
        simp [hi', hi, qX, f0, hp, maskS, w]
        exact ⟨c2, by rw [hn, ← ecur]; exact g2⟩
    · rintro st ⟨H2, rfl, c2, g2⟩
      rw [stepL_all] at g2
      simp
      exact ⟨SL.mk (by omega) (rowOf_rw g2) (by simp; omega) (by simp), c1.trans c2 (fun i hi => .inr (by simp at hi; omega))⟩
theorem limit_ok {v : AV} {l : List Ac} {id q : Int} (h : SA H v l) (hl : l.length ≤ 1000000) (hk : l.length + 40 < k) : Hx (callA ap k (.func 8 [] []) [v, .int .i64 id, .int .i64 q] 0 H) fun r => ∃ vr, r.1 = .tuple [vr, .int .i64 (limitB l id q).2] ∧ SA r.2 vr (limitB l id q).1 ∧ Chg [] H r.2 := by
  obtain ⟨k, rfl⟩ : ∃ k', k = k' + 3 := ⟨k - 3, by omega⟩
  rw [hx_go fn8 rfl, b8]
  have h1 := accs_ok (k := k + 2) h hl (by omega)
  have h2 := find_ok (k := k + 2) (id := id) h hl (by omega)
  have h5 := h
  obtain ⟨a, c, s, rfl⟩ := h.form
  cases haa : accsB l with
  | false =>
    have hA : limitB l id q = ([], 1) := by rw [limitB, haa]; rfl
    rw [hA]
    rw [haa] at h1
    simp [h1]
    exact ⟨.nil _ _, .refl⟩
  | true =>
  rw [haa] at h1
  by_cases q1 : q < 0
  · have hA : limitB l id q = ([], 1) := by rw [limitB, if_neg (by omega)]
    rw [hA]
    simp [h1, q1]
    exact ⟨.nil _ _, .refl⟩
  by_cases q2 : 1000000000000 < q
  · have hA : limitB l id q = ([], 1) := by rw [limitB, if_neg (by omega)]
    rw [hA]
    simp [h1, q1, q2]
    exact ⟨.nil _ _, .refl⟩
  have hf : findB l id = findL l id := by rw [findB, haa]; rfl
  rw [hf] at h2
  cases hx : findL l id with
  | none =>
    have hA : limitB l id q = ([], 3) := by rw [limitB, if_pos ⟨haa, by omega, by omega⟩, hx]
    rw [hA]
    rw [hx] at h2
    simp only [fA, Option.getD_none, dA, Ac.cs, Option.isSome_none] at h2
    simp [h1, q1, q2, h2]
    exact ⟨.nil _ _, .app _ _⟩
  | some x =>
    have hA : limitB l id q = (l.map (wA { x with lim := q }), 0) := by rw [limitB, if_pos ⟨haa, by omega, by omega⟩, hx]
    rw [hA]
    rw [hx] at h2
    simp only [fA, Option.getD_some, Ac.cs, Option.isSome_some] at h2
    obtain ⟨G, eG⟩ : ∃ G, G = H ++ [.cells [.int .i64 x.id, .int .i64 x.mem, .int .i64 x.kind, .int .i64 q] .rw] := ⟨_, rfl⟩
    have cG : Chg [] H G := by rw [eG]; exact .app _ _
    have hw := with_ok (k := k + 2) (x := { x with lim := q }) (h5.keep cG) hl (by omega)
    simp only [Ac.cs, tag_eq] at hw
    simp [h1, q1, q2, h2]
    rw [← eG]
    refine Hx.mapp hw ?_
    rintro ⟨w, H1⟩ ⟨t1, t2⟩
    simp only at t1 t2
    obtain ⟨a1, c1, s1, e1⟩ := SA.form t1
    subst e1
    simp
    rw [List.length_map] at t1
    exact ⟨t1, cG.tr t2⟩
theorem port_ok {vm v : AV} {m : List Mb} {l : List Ac} {id to : Int} (hm : SM H vm m) (h : SA H v l) (hl : l.length ≤ 1000000) (hl2 : m.length ≤ 1000000) (hk : m.length + l.length + 60 < k) : Hx (callA ap k (.func 9 [] []) [vm, v, .int .i64 id, .int .i64 to] 0 H) fun r => ∃ vr, r.1 = .tuple [vr, .int .i64 (portB m l id to).2] ∧ SA r.2 vr (portB m l id to).1 ∧ Chg [] H r.2 := by
  obtain ⟨k, rfl⟩ : ∃ k', k = k' + 3 := ⟨k - 3, by omega⟩
  rw [hx_go fn9 rfl, b9]
  have h1 := right_ok (k := k + 2) hm h hl2 hl (by omega)
  have h2 := find_ok (k := k + 2) (id := id) h hl (by omega)
  have h5 := h
  have h6 := hm
  obtain ⟨a, c, s, rfl⟩ := h.form
  obtain ⟨a', c', s', rfl⟩ := hm.form
  cases haa : rollB m l with
  | false =>
    have hA : portB m l id to = ([], 1) := by rw [portB, haa]; rfl
    rw [hA]
    rw [haa] at h1
    simp [h1]
    exact ⟨.nil _ _, .refl⟩
  | true =>
  rw [haa] at h1
  have hmm : membersB m = true := by unfold rollB at haa; simp only [Bool.and_eq_true] at haa; exact haa.1
  have hac : accsB l = true := by unfold rollB at haa; simp only [Bool.and_eq_true] at haa; exact haa.2.1
  have hf : findB l id = findL l id := by rw [findB, hac]; rfl
  have hst : statusB m to = stL m to := by rw [statusB, hmm]; rfl
  rw [hf] at h2
  obtain ⟨G, eG⟩ : ∃ G, G = H ++ [.cells (fA (findL l id)).cs .rw] := ⟨_, rfl⟩
  have cG : Chg [] H G := by rw [eG]; exact .app _ _
  have rG : rowOf G H.length = some (fA (findL l id)).cs := by rw [eG]; simp [Ac.cs]
  have gG : G[H.length]? = some (.cells (fA (findL l id)).cs .rw) := by rw [eG]; simp
  have wG : rowRw G 0 H.length = some _ := rowRw_rw gG
  have h3 := status_ok (k := k + 2) (id := to) (h6.keep cG) hl2 (by omega)
  rw [hst] at h3
  simp only [Ac.cs] at h2 eG rG wG
  cases hx : findL l id with
  | none =>
    have hA : portB m l id to = ([], 3) := by rw [portB, haa, if_pos rfl, hx]
    rw [hA]
    rw [hx] at h2 eG
    simp [h1, h2]
    rw [← eG]
    simp [h3]
    exact ⟨.nil _ _, cG⟩
  | some x =>
    rw [hx] at h2 eG rG wG
    simp only [fA, Option.getD_some, Option.isSome_some] at h2 eG rG wG
    simp [h1, h2]
    rw [← eG]
    by_cases s0 : stL m to = 0
    · have hA : portB m l id to = ([], 3) := by rw [portB, haa, if_pos rfl, hx]; simp only; rw [if_pos s0]
      rw [hA]
      simp [h3, s0]
      exact ⟨.nil _ _, cG⟩
    by_cases k2 : x.kind = 2
    case neg =>
      have hA : portB m l id to = ([], 8) := by rw [portB, haa, if_pos rfl, hx]; simp only; rw [if_neg s0, if_pos k2]
      rw [hA]
      simp [h3, s0, rG, k2]
      exact ⟨.nil _ _, cG⟩
    by_cases s1 : stL m to = 1
    case neg =>
      have hA : portB m l id to = ([], 7) := by rw [portB, haa, if_pos rfl, hx]; simp only; rw [if_neg s0, if_neg (by simp [k2]), if_pos s1]
      rw [hA]
      simp [h3, s0, rG, k2, s1]
      exact ⟨.nil _ _, cG⟩
    have hA : portB m l id to = (l.map (wA { x with mem := to }), 0) := by rw [portB, haa, if_pos rfl, hx]; simp only; rw [if_neg s0, if_neg (by simp [k2]), if_neg (by simp [s1])]
    rw [hA]
    obtain ⟨G2, e2⟩ : ∃ G2, G2 = G.set H.length (.cells [.int .i64 x.id, .int .i64 to, .int .i64 x.kind, .int .i64 x.lim] .rw) := ⟨_, rfl⟩
    have c2 : Chg [] H G2 := by rw [e2]; exact cG.set_new (Nat.le_refl _) _
    have r2 : rowOf G2 H.length = some [.int .i64 x.id, .int .i64 to, .int .i64 x.kind, .int .i64 x.lim] := by rw [e2]; exact rowOf_self (lt_of_get gG)
    have hw := with_ok (k := k + 2) (x := { x with mem := to }) (h5.keep c2) hl (by omega)
    simp only [Ac.cs, tag_eq] at hw
    rw [k2] at e2 r2 hw
    simp [h3, s0, rG, k2, s1, wG]
    rw [← e2]
    simp [r2]
    refine Hx.mapp hw ?_
    rintro ⟨w, H1⟩ ⟨t1, t2⟩
    simp only at t1 t2
    obtain ⟨a1, c1, s1, e1⟩ := SA.form t1
    subst e1
    simp
    rw [List.length_map] at t1
    rw [k2]
    exact ⟨t1, c2.tr t2⟩
end
end Go.Proofs.Ytobfodegdbfhdaa.T.Ro
end
section
/-! Enrol, Open of the program. -/
set_option linter.unusedVariables false
set_option linter.unusedSimpArgs false
set_option maxHeartbeats 40000000
set_option maxRecDepth 100000
namespace Go.Proofs.Ytobfodegdbfhdaa.T.Ro
open Go Go.Ab
/-- How many at the beginning are so. -/
def posB {α : Type} (P : α → Bool) : List α → Nat
  | [] => 0
  | x :: l => if P x = true then posB P l + 1 else 0
theorem posB_le {α : Type} {P : α → Bool} : ∀ l : List α, posB P l ≤ l.length
  | [] => Nat.le_refl _
  | x :: l => by
    rw [posB]
    split
    · have := posB_le (P := P) l; simp; omega
    · omega
theorem posB_yes {α : Type} {P : α → Bool} : ∀ {l : List α} {i : Nat} (hi : i < l.length), i < posB P l → P l[i] = true
  | x :: l, i, hi, h => by
    rw [posB] at h
    split at h
    · rename_i hp
      cases i with
      | zero => exact hp
      | succ i => exact posB_yes (l := l) (by simpa using hi) (by omega)
    · omega
theorem posB_no {α : Type} {P : α → Bool} : ∀ {l : List α} (hi : posB P l < l.length), P (l[posB P l]'hi) = false
  | x :: l, hi => by
    by_cases hp : P x = true
    · have e : posB P (x :: l) = posB P l + 1 := by rw [posB, if_pos hp]
      have hi' : posB P l < l.length := by rw [e] at hi; simpa using hi
      have := posB_no hi'
      simp only [e, List.getElem_cons_succ]
      exact this
    · have e : posB P (x :: l) = 0 := by rw [posB, if_neg hp]
      simp only [e, List.getElem_cons_zero]
      simpa using hp
def posM (m : List Mb) (id : Int) : Nat := posB (fun x => decide (x.id < id)) m
def posA (a : List Ac) (id : Int) : Nat := posB (fun x => decide (x.id < id)) a
def enrolB (m : List Mb) (id : Int) : List Mb × Int := if membersB m = true ∧ 1 ≤ id ∧ id ≤ 12 then (if stL m id = 0 then (m.take (posM m id) ++ ⟨id, 1⟩ :: m.drop (posM m id), 0) else ([], 4)) else ([], 1)
def openB (m : List Mb) (a : List Ac) (x : Ac) : List Ac × Int := if rollB m a = true ∧ accsB [x] = true then (if stL m x.mem = 0 then ([], 3) else if stL m x.mem ≠ 1 then ([], 7) else if (findL a x.id).isSome = true ∨ (x.kind = 1 ∧ houseL a x.mem ≠ 0) then ([], 4) else (a.take (posA a x.id) ++ x :: a.drop (posA a x.id), 0)) else ([], 1)
section
variable {k : Nat} {H : AH}
theorem enrol_ok {v : AV} {m : List Mb} {id : Int} (h : SM H v m) (hl : m.length ≤ 900000) (hk : m.length + 60 < k) : Hx (callA ap k (.func 6 [] []) [v, .int .i64 id] 0 H) fun r => ∃ vr, r.1 = .tuple [vr, .int .i64 (enrolB m id).2] ∧ SM r.2 vr (enrolB m id).1 ∧ Chg [] H r.2 := by
  obtain ⟨k, rfl⟩ : ∃ k', k = k' + 3 := ⟨k - 3, by omega⟩
  rw [hx_go fn6 rfl, b6]
  have h1 := members_ok (k := k + 2) h (by omega) (by omega)
  have h2 := status_ok (k := k + 2) (id := id) h (by omega) (by omega)
  have h3 := @next_ok (k + 1) H 0 1
  have h30 : nextB 0 1 = (1, true) := rfl
  rw [h30] at h3
  have h5 := h
  obtain ⟨a, c, s, rfl⟩ := h.form
  cases hmm : membersB m with
  | false =>
    have hA : enrolB m id = ([], 1) := by rw [enrolB, hmm]; rfl
    rw [hA]
    rw [hmm] at h1
    simp [h1, h3]
    exact ⟨.nil _ _, .refl⟩
  | true =>
  rw [hmm] at h1
  have hst : statusB m id = stL m id := by rw [statusB, hmm]; rfl
  rw [hst] at h2
  by_cases q1 : id < 1
  · have hA : enrolB m id = ([], 1) := by rw [enrolB, if_neg (by omega)]
    rw [hA]
    simp [h1, h3, q1]
    exact ⟨.nil _ _, .refl⟩
  by_cases q2 : 12 < id
  · have hA : enrolB m id = ([], 1) := by rw [enrolB, if_neg (by omega)]
    rw [hA]
    simp [h1, h3, q1, q2]
    exact ⟨.nil _ _, .refl⟩
  by_cases h0 : stL m id = 0
  case neg =>
    have hA : enrolB m id = ([], 4) := by rw [enrolB, if_pos ⟨hmm, by omega, by omega⟩, if_neg h0]
    rw [hA]
    simp [h1, h3, q1, q2, h2, h0]
    exact ⟨.nil _ _, .refl⟩
  have hA : enrolB m id = (m.take (posM m id) ++ ⟨id, 1⟩ :: m.drop (posM m id), 0) := by rw [enrolB, if_pos ⟨hmm, by omega, by omega⟩, if_pos h0]
  rw [hA]
  have hple : posM m id ≤ m.length := posB_le m
  simp [h1, h3, q1, q2, h2, h0]
  refine hx_up (fun i st => st = ⟨sp 53 [(0, .slice a m.length c s), (1, .int .i64 id), (6, .int .i64 1), (8, .int .i64 i)], H, []⟩) (posM m id) ?_ ?_ (by omega) (by simp [maskS])
  · rintro i st hi rfl
    have hil : i < m.length := by omega
    have hi' : (i : Int) < m.length := by omega
    have w : IntKind.i64.wrap ((i : Int) + 1) = (i : Int) + 1 := wrap_i64 (by omega) (by omega)
    obtain ⟨b, o, c', r, e, g0, g⟩ := SM.all h5 (by intro h; simp [h] at hil)
    obtain ⟨z1, z2, z3, z4⟩ := AV.slice.inj e
    subst z1 z3 z4
    have f0 := (g i hil).2.2 0 (by omega)
    have hy := posB_yes (P := fun x : Mb => decide (x.id < id)) hil hi
    obtain ⟨x, hx⟩ : ∃ x, x = m[i] := ⟨_, rfl⟩
    rw [← hx] at f0 hy
    simp only [Mb.cs, Nat.add_zero, List.getElem?_cons_zero, decide_eq_true_eq] at f0 hy
    simp [hi', hil, g0, f0, hy, maskS, w]
  · rintro st rfl
    obtain ⟨pp, epp⟩ : ∃ pp, pp = posM m id := ⟨_, rfl⟩
    rw [← epp] at hple ⊢
    have fin : ∀ {w : AV} {H1 : AH}, Chg [] H H1 → ClMb H1 w m → (∀ i ∈ blk w, H.length ≤ i) → Hx (callA ap (k + 2) (.func 34 [] []) [w, .int .i64 pp, .slice (some (H1.length, 0)) 1 (some 1) 2] 0 (H1 ++ [.cells [.int .i64 id, .int .i64 1] .pl])) fun r => SM r.2 r.1 (m.take pp ++ ⟨id, 1⟩ :: m.drop pp) ∧ Chg [] H r.2 := fun {w H1} c1 t1 t2 => by
      obtain ⟨V, eV⟩ : ∃ V, V = H1 ++ [.cells [.int .i64 id, .int .i64 1] .pl] := ⟨_, rfl⟩
      have cV : Chg [] H1 V := by rw [eV]; exact .app _ _
      rw [← eV]
      refine (insMb_ok (k := k + 1) (o := ⟨id, 1⟩) (bv := H1.length) (t1.chg cV (by simp)) (by rw [eV]; simp [Mb.cs]) hple (by omega) (fun hb => by have := t1.so.lt _ hb; omega)).mono fun r ⟨u1, u2⟩ => ⟨u1, (c1.tr cV).trans u2 (fun i hi => .inr (t2 i hi))⟩
    have hcl := clMb_ok (k := k + 1) h5 (by omega)
    have hlen : (m.take pp ++ (⟨id, 1⟩ : Mb) :: m.drop pp).length = m.length + 1 := by simp; omega
    by_cases hpl : pp < m.length
    · obtain ⟨b, o, c', r, e, g0, g⟩ := SM.all h5 (by intro h; simp [h] at hpl)
      obtain ⟨z1, z2, z3, z4⟩ := AV.slice.inj e
      subst z1 z3 z4
      have f0 := (g pp hpl).2.2 0 (by omega)
      have hn := posB_no (P := fun x : Mb => decide (x.id < id)) (l := m) (by rw [epp] at hpl; exact hpl)
      have hpp : posB (fun x : Mb => decide (x.id < id)) m = pp := by rw [epp]; rfl
      simp only [hpp] at hn
      obtain ⟨x, hx⟩ : ∃ x, x = m[pp] := ⟨_, rfl⟩
      rw [← hx] at f0 hn
      simp only [Mb.cs, Nat.add_zero, List.getElem?_cons_zero, decide_eq_false_iff_not] at f0 hn
      have hpl' : (pp : Int) < m.length := by omega
      simp [hpl', hpl, g0, f0, hn]
      refine Hx.mapp hcl ?_
      rintro ⟨w, H1⟩ ⟨c1, t1, t2⟩
      simp only at c1 t1 t2
      have ff := fin c1 t1 t2
      obtain ⟨a1, cc, s1, e1⟩ := t1.so.form
      rw [e1] at ff ⊢
      simp
      refine Hx.mapp ff ?_
      rintro ⟨w2, H2⟩ ⟨u1, u2⟩
      simp only at u1 u2
      obtain ⟨a2, c2, s2, e2⟩ := u1.form
      subst e2
      rw [hlen] at u1 ⊢
      simp
      exact ⟨u1, u2⟩
    · have hpe : pp = m.length := by omega
      have hpl' : ¬ (pp : Int) < m.length := by omega
      simp [hpl', hpl]
      refine Hx.mapp hcl ?_
      rintro ⟨w, H1⟩ ⟨c1, t1, t2⟩
      simp only at c1 t1 t2
      have ff := fin c1 t1 t2
      obtain ⟨a1, cc, s1, e1⟩ := t1.so.form
      rw [e1] at ff ⊢
      simp
      refine Hx.mapp ff ?_
      rintro ⟨w2, H2⟩ ⟨u1, u2⟩
      simp only at u1 u2
      obtain ⟨a2, c2, s2, e2⟩ := u1.form
      subst e2
      rw [hlen] at u1 ⊢
      simp
      exact ⟨u1, u2⟩
end
end Go.Proofs.Ytobfodegdbfhdaa.T.Ro
end
section
/-! Open of the program. -/
set_option linter.unusedVariables false
set_option linter.unusedSimpArgs false
set_option maxHeartbeats 40000000
set_option maxRecDepth 100000
namespace Go.Proofs.Ytobfodegdbfhdaa.T.Ro
open Go Go.Ab
section
variable {k : Nat} {H : AH}
theorem one_acc {x : Ac} : SA (H ++ [.cells x.cs .pl]) (.slice (some (H.length, 0)) 1 (some 1) 4) [x] := .at_ _ 0 1 (some 1) x.cs _ (by omega) (by simp [rowOf]) (by simp [Ac.cs]) (by simp [Ac.cs, acsC]) (by simp)
theorem open_ok {vm v : AV} {m : List Mb} {l : List Ac} {x : Ac} (hm : SM H vm m) (h : SA H v l) (hl : l.length ≤ 900000) (hl2 : m.length ≤ 900000) (hk : m.length + l.length + 80 < k) : Hx (callA ap k (.func 7 [] []) [vm, v, .agg x.cs] 0 H) fun r => ∃ vr, r.1 = .tuple [vr, .int .i64 (openB m l x).2] ∧ SA r.2 vr (openB m l x).1 ∧ Chg [] H r.2 := by
  obtain ⟨k, rfl⟩ : ∃ k', k = k' + 3 := ⟨k - 3, by omega⟩
  rw [hx_go fn7 rfl, b7]
  obtain ⟨G, eG⟩ : ∃ G, G = H ++ [.cells x.cs .rw] := ⟨_, rfl⟩
  have cG : Chg [] H G := by rw [eG]; exact .app _ _
  have rG : rowOf G H.length = some x.cs := by rw [eG]; simp [Ac.cs]
  have lG : G.length = H.length + 1 := by rw [eG]; simp
  have h1 := right_ok (k := k + 2) (hm.keep cG) (h.keep cG) (by omega) (by omega) (by omega)
  have h5 := h
  have h6 := hm
  obtain ⟨a, c, s, rfl⟩ := h.form
  obtain ⟨a', c', s', rfl⟩ := hm.form
  cases haa : rollB m l with
  | false =>
    have hA : openB m l x = ([], 1) := by rw [openB, haa, if_neg (by simp)]
    rw [hA]
    rw [haa] at h1
    simp only [Ac.cs] at eG
    simp [Ac.cs]
    rw [← eG]
    simp [h1]
    exact ⟨.nil _ _, cG⟩
  | true =>
  rw [haa] at h1
  have hmm : membersB m = true := by unfold rollB at haa; simp only [Bool.and_eq_true] at haa; exact haa.1
  have hac : accsB l = true := by unfold rollB at haa; simp only [Bool.and_eq_true] at haa; exact haa.2.1
  obtain ⟨G1, e1⟩ : ∃ G1, G1 = G ++ [.cells x.cs .pl] := ⟨_, rfl⟩
  have c1 : Chg [] G G1 := by rw [e1]; exact .app _ _
  have r1 := c1.row rG (by simp)
  have c01 := cG.tr c1
  have h2 := accs_ok (k := k + 2) (one_acc (H := G) (x := x)) (by simp) (by simp; omega)
  rw [← e1] at h2
  cases hax : accsB [x] with
  | false =>
    have hA : openB m l x = ([], 1) := by rw [openB, hax, if_neg (by simp)]
    rw [hA]
    rw [hax] at h2
    simp only [Ac.cs] at eG e1 rG
    simp [Ac.cs]
    rw [← eG]
    simp [h1, rG]
    rw [← e1]
    simp [h2]
    exact ⟨.nil _ _, c01⟩
  | true =>
  rw [hax] at h2
  have hO : openB m l x = if stL m x.mem = 0 then ([], 3) else if stL m x.mem ≠ 1 then ([], 7) else if (findL l x.id).isSome = true ∨ (x.kind = 1 ∧ houseL l x.mem ≠ 0) then ([], 4) else (l.take (posA l x.id) ++ x :: l.drop (posA l x.id), 0) := by rw [openB, if_pos ⟨haa, hax⟩]
  have hf : findB l x.id = findL l x.id := by rw [findB, hac]; rfl
  have hst : statusB m x.mem = stL m x.mem := by rw [statusB, hmm]; rfl
  have hho : houseB l x.mem = houseL l x.mem := by rw [houseB, hac]; rfl
  have h3 := find_ok (k := k + 2) (id := x.id) (h5.keep c01) (by omega) (by omega)
  rw [hf] at h3
  obtain ⟨G2, e2⟩ : ∃ G2, G2 = G1 ++ [.cells (fA (findL l x.id)).cs .rw] := ⟨_, rfl⟩
  have c2 : Chg [] G1 G2 := by rw [e2]; exact .app _ _
  have c02 := c01.tr c2
  have r2 := c2.row r1 (by simp)
  have h4 := status_ok (k := k + 2) (id := x.mem) (h6.keep c02) (by omega) (by omega)
  rw [hst] at h4
  have h7 := house_ok (k := k + 2) (mem := x.mem) (h5.keep c02) (by omega) (by omega)
  rw [hho] at h7
  simp only [Ac.cs] at eG e1 e2 rG r1 r2 h3
  rw [hO]
  simp [Ac.cs]
  rw [← eG]
  simp [h1, rG]
  rw [← e1]
  simp [h2, r1, h3]
  rw [← e2]
  by_cases s0 : stL m x.mem = 0
  · rw [if_pos s0]
    simp [r2, h4, s0]
    exact ⟨.nil _ _, c02⟩
  rw [if_neg s0]
  by_cases s1 : stL m x.mem = 1
  case neg =>
    rw [if_pos s1]
    simp [r2, h4, s0, s1]
    exact ⟨.nil _ _, c02⟩
  rw [if_neg (by simp [s1])]
  cases hx : (findL l x.id).isSome with
  | true =>
    rw [if_pos (.inl rfl)]
    simp [r2, h4, s0, s1]
    exact ⟨.nil _ _, c02⟩
  | false =>
  by_cases kh : x.kind = 1 ∧ houseL l x.mem ≠ 0
  · rw [if_pos (.inr kh)]
    simp [r2, h4, s0, s1, kh.1, h7, kh.2]
    exact ⟨.nil _ _, c02⟩
  rw [if_neg (by simp only [Bool.false_eq_true, false_or]; exact kh)]
  have hple : posA l x.id ≤ l.length := posB_le l
  have fin : ∀ {pp : Nat} {w : AV} {H1 H0 : AH} {bs : Nat}, pp ≤ l.length → Chg [] H0 H1 → ClAc H1 w l → (∀ i ∈ blk w, H0.length ≤ i) → H1[bs]? = some (.cells x.cs .pl) → bs ∉ blk w → Hx (callA ap (k + 2) (.func 36 [] []) [w, .int .i64 pp, .slice (some (bs, 0)) 1 (some 1) 4] 0 H1) fun r => SA r.2 r.1 (l.take pp ++ x :: l.drop pp) ∧ Chg [] H0 r.2 := fun {pp w H1 H0 bs} hp c t1 t2 hv hb =>
    (insAc_ok (k := k + 1) (o := x) (bv := bs) t1 hv hp (by omega) hb).mono fun r ⟨u1, u2⟩ => ⟨u1, c.trans u2 (fun i hi => .inr (t2 i hi))⟩
  have loop : ∀ {Q : Ex × St → Prop}, True := trivial
  by_cases k1 : x.kind = 1
  · have hh : houseL l x.mem = 0 := by
      by_cases hz : houseL l x.mem = 0
      · exact hz
      · exact (kh ⟨k1, hz⟩).elim
    simp [r2, h4, s0, s1, k1, h7, hh]
    refine hx_up (fun i st => ∃ H', st = ⟨sp 73 [(1, .slice a l.length c s), (5, .ptr (some (H.length, 0))), (11, .int .i64 i)], H', []⟩ ∧ Chg [] G2 H') (posA l x.id) ?_ ?_ (by omega) ⟨G2, by simp [maskS], .refl⟩
    · rintro i st hi ⟨H3, rfl, c3⟩
      have hil : i < l.length := by omega
      have hi' : (i : Int) < l.length := by omega
      have w : IntKind.i64.wrap ((i : Int) + 1) = (i : Int) + 1 := wrap_i64 (by omega) (by omega)
      simp
      refine hx_drawn dc7_13 fun X cX _ _ => ?_
      have c4 := c3.tr cX
      obtain ⟨b, o, c'', r, e, g0, g⟩ := SA.all (h5.keep (c02.tr c4)) (by intro h; simp [h] at hil)
      obtain ⟨z1, z2, z3, z4⟩ := AV.slice.inj e
      subst z1 z3 z4
      have f0 := (g i hil).2.2 0 (by omega)
      have hy := posB_yes (P := fun y : Ac => decide (y.id < x.id)) hil hi
      obtain ⟨y, hyy⟩ : ∃ y, y = l[i] := ⟨_, rfl⟩
      rw [← hyy] at f0 hy
      simp only [Ac.cs, Nat.add_zero, List.getElem?_cons_zero, decide_eq_true_eq] at f0 hy
      have rX := c4.row r2 (by simp)
      simp [d7_13, hi', hil, g0, f0, rX, hy, maskS, w]
      exact c4
    · rintro st ⟨H3, rfl, c3⟩
      obtain ⟨pp, epp⟩ : ∃ pp, pp = posA l x.id := ⟨_, rfl⟩
      rw [← epp] at hple ⊢
      have hlen : (l.take pp ++ x :: l.drop pp).length = l.length + 1 := by simp; omega
      simp
      refine hx_drawn dc7_13 fun X cX _ _ => ?_
      have c4 := c3.tr cX
      have rX := c4.row r2 (by simp)
      have last : ∀ {Y : AH} (cY : Chg [] G2 Y) (hl' : Y.length = X.length + 7 ∨ True), True := fun _ _ => trivial
      by_cases hpl : pp < l.length
      · obtain ⟨b, o, c'', r, e, g0, g⟩ := SA.all (h5.keep (c02.tr c4)) (by intro h; simp [h] at hpl)
        obtain ⟨z1, z2, z3, z4⟩ := AV.slice.inj e
        subst z1 z3 z4
        have f0 := (g pp hpl).2.2 0 (by omega)
        have hn := posB_no (P := fun y : Ac => decide (y.id < x.id)) (l := l) (by rw [epp] at hpl; exact hpl)
        have hpp : posB (fun y : Ac => decide (y.id < x.id)) l = pp := by rw [epp]; rfl
        simp only [hpp] at hn
        obtain ⟨y, hyy⟩ : ∃ y, y = l[pp] := ⟨_, rfl⟩
        rw [← hyy] at f0 hn
        simp only [Ac.cs, Nat.add_zero, List.getElem?_cons_zero, decide_eq_false_iff_not] at f0 hn
        have hpl' : (pp : Int) < l.length := by omega
        simp [d7_13, hpl', hpl, g0, f0, rX, hn]
        refine hx_drawn dc7_15 fun Y cY hlY hd => ?_
        have c5 := c4.tr cY
        have rY := c5.row r2 (by simp)
        have hdY := hd 4 (by simp [d7_15])
        have hlY' : Y.length = X.length + 8 := hlY
        simp [d7_15, rY]
        refine Hx.mapp (clAc_ok (k := k + 1) (h5.keep (c02.tr c5)) (by omega)) ?_
        rintro ⟨w, Z⟩ ⟨c6, t1, t2⟩
        simp only at c6 t1 t2
        have hdZ := c6.get hdY (by simp)
        have rZ := c6.row rY (by simp)
        obtain ⟨Z2, e3⟩ : ∃ Z2, Z2 = Z.set (X.length + 4) (.cells x.cs .pl) := ⟨_, rfl⟩
        have cZ2 : Chg [X.length + 4] Z Z2 := by rw [e3]; exact .set _ _ _
        have hHX : H.length < X.length := by have := rowOf_lt rX; omega
        have hXG := c02.1
        have hXX := c4.1
        have nb : X.length + 4 ∉ blk w := fun hb => by have := t2 _ hb; omega
        have cHZ2 : Chg [] H Z2 := by rw [e3]; exact ((c02.tr c5).tr c6).set_new (by omega) _
        have rZ2 := cZ2.row rZ (by simp; omega)
        have hcc : ∀ i ∈ blk w, Y.length ≤ i := t2
        have hi7 := insAc_ok (k := k + 1) (o := x) (bv := X.length + 4) (i := pp) (t1.chg cZ2 (fun i hi => by have := t2 i hi; simp; omega)) (by rw [e3]; simp [lt_of_get hdZ]) hple (by omega) nb
        obtain ⟨a1, cc, s1', ew⟩ := t1.so.form
        rw [ew] at hi7 ⊢
        simp only [Ac.cs] at e3
        simp [hdZ, hdY, rZ]
        rw [← e3]
        refine Hx.mapp hi7 ?_
        rintro ⟨w2, Z3⟩ ⟨u1, u2⟩
        simp only at u1 u2
        obtain ⟨a2, c2', s2, ew2⟩ := u1.form
        subst ew2
        rw [hlen] at u1 ⊢
        have rZ3 := u2.row rZ2 (fun hb => by have := t2 _ (by rw [ew]; exact hb); omega)
        simp [rZ2, rZ3]
        exact ⟨u1, cHZ2.trans u2 (fun i hi => .inr (by have := t2 i (by rw [ew]; exact hi); omega))⟩
      · have hpl' : ¬ (pp : Int) < l.length := by omega
        simp [d7_13, hpl', hpl]
        refine hx_drawn dc7_15 fun Y cY hlY hd => ?_
        have c5 := c4.tr cY
        have rY := c5.row r2 (by simp)
        have hdY := hd 4 (by simp [d7_15])
        have hlY' : Y.length = X.length + 8 := hlY
        simp [d7_15, rY]
        refine Hx.mapp (clAc_ok (k := k + 1) (h5.keep (c02.tr c5)) (by omega)) ?_
        rintro ⟨w, Z⟩ ⟨c6, t1, t2⟩
        simp only at c6 t1 t2
        have hdZ := c6.get hdY (by simp)
        have rZ := c6.row rY (by simp)
        obtain ⟨Z2, e3⟩ : ∃ Z2, Z2 = Z.set (X.length + 4) (.cells x.cs .pl) := ⟨_, rfl⟩
        have cZ2 : Chg [X.length + 4] Z Z2 := by rw [e3]; exact .set _ _ _
        have hHX : H.length < X.length := by have := rowOf_lt rX; omega
        have hXG := c02.1
        have hXX := c4.1
        have nb : X.length + 4 ∉ blk w := fun hb => by have := t2 _ hb; omega
        have cHZ2 : Chg [] H Z2 := by rw [e3]; exact ((c02.tr c5).tr c6).set_new (by omega) _
        have rZ2 := cZ2.row rZ (by simp; omega)
        have hcc : ∀ i ∈ blk w, Y.length ≤ i := t2
        have hi7 := insAc_ok (k := k + 1) (o := x) (bv := X.length + 4) (i := pp) (t1.chg cZ2 (fun i hi => by have := t2 i hi; simp; omega)) (by rw [e3]; simp [lt_of_get hdZ]) hple (by omega) nb
        obtain ⟨a1, cc, s1', ew⟩ := t1.so.form
        rw [ew] at hi7 ⊢
        simp only [Ac.cs] at e3
        simp [hdZ, hdY, rZ]
        rw [← e3]
        refine Hx.mapp hi7 ?_
        rintro ⟨w2, Z3⟩ ⟨u1, u2⟩
        simp only at u1 u2
        obtain ⟨a2, c2', s2, ew2⟩ := u1.form
        subst ew2
        rw [hlen] at u1 ⊢
        have rZ3 := u2.row rZ2 (fun hb => by have := t2 _ (by rw [ew]; exact hb); omega)
        simp [rZ2, rZ3]
        exact ⟨u1, cHZ2.trans u2 (fun i hi => .inr (by have := t2 i (by rw [ew]; exact hi); omega))⟩
  · simp [r2, h4, s0, s1, k1]
    refine hx_up (fun i st => ∃ H', st = ⟨sp 73 [(1, .slice a l.length c s), (5, .ptr (some (H.length, 0))), (11, .int .i64 i)], H', []⟩ ∧ Chg [] G2 H') (posA l x.id) ?_ ?_ (by omega) ⟨G2, by simp [maskS], .refl⟩
    · rintro i st hi ⟨H3, rfl, c3⟩
      have hil : i < l.length := by omega
      have hi' : (i : Int) < l.length := by omega
      have w : IntKind.i64.wrap ((i : Int) + 1) = (i : Int) + 1 := wrap_i64 (by omega) (by omega)
      simp
      refine hx_drawn dc7_13 fun X cX _ _ => ?_
      have c4 := c3.tr cX
      obtain ⟨b, o, c'', r, e, g0, g⟩ := SA.all (h5.keep (c02.tr c4)) (by intro h; simp [h] at hil)
      obtain ⟨z1, z2, z3, z4⟩ := AV.slice.inj e
      subst z1 z3 z4
      have f0 := (g i hil).2.2 0 (by omega)
      have hy := posB_yes (P := fun y : Ac => decide (y.id < x.id)) hil hi
      obtain ⟨y, hyy⟩ : ∃ y, y = l[i] := ⟨_, rfl⟩
      rw [← hyy] at f0 hy
      simp only [Ac.cs, Nat.add_zero, List.getElem?_cons_zero, decide_eq_true_eq] at f0 hy
      have rX := c4.row r2 (by simp)
      simp [d7_13, hi', hil, g0, f0, rX, hy, maskS, w]
      exact c4
    · rintro st ⟨H3, rfl, c3⟩
      obtain ⟨pp, epp⟩ : ∃ pp, pp = posA l x.id := ⟨_, rfl⟩
      rw [← epp] at hple ⊢
      have hlen : (l.take pp ++ x :: l.drop pp).length = l.length + 1 := by simp; omega
      simp
      refine hx_drawn dc7_13 fun X cX _ _ => ?_
      have c4 := c3.tr cX
      have rX := c4.row r2 (by simp)
      have last : ∀ {Y : AH} (cY : Chg [] G2 Y) (hl' : Y.length = X.length + 7 ∨ True), True := fun _ _ => trivial
      by_cases hpl : pp < l.length
      · obtain ⟨b, o, c'', r, e, g0, g⟩ := SA.all (h5.keep (c02.tr c4)) (by intro h; simp [h] at hpl)
        obtain ⟨z1, z2, z3, z4⟩ := AV.slice.inj e
        subst z1 z3 z4
        have f0 := (g pp hpl).2.2 0 (by omega)
        have hn := posB_no (P := fun y : Ac => decide (y.id < x.id)) (l := l) (by rw [epp] at hpl; exact hpl)
        have hpp : posB (fun y : Ac => decide (y.id < x.id)) l = pp := by rw [epp]; rfl
        simp only [hpp] at hn
        obtain ⟨y, hyy⟩ : ∃ y, y = l[pp] := ⟨_, rfl⟩
        rw [← hyy] at f0 hn
        simp only [Ac.cs, Nat.add_zero, List.getElem?_cons_zero, decide_eq_false_iff_not] at f0 hn
        have hpl' : (pp : Int) < l.length := by omega
        simp [d7_13, hpl', hpl, g0, f0, rX, hn]
        refine hx_drawn dc7_15 fun Y cY hlY hd => ?_
        have c5 := c4.tr cY
        have rY := c5.row r2 (by simp)
        have hdY := hd 4 (by simp [d7_15])
        have hlY' : Y.length = X.length + 8 := hlY
        simp [d7_15, rY]
        refine Hx.mapp (clAc_ok (k := k + 1) (h5.keep (c02.tr c5)) (by omega)) ?_
        rintro ⟨w, Z⟩ ⟨c6, t1, t2⟩
        simp only at c6 t1 t2
        have hdZ := c6.get hdY (by simp)
        have rZ := c6.row rY (by simp)
        obtain ⟨Z2, e3⟩ : ∃ Z2, Z2 = Z.set (X.length + 4) (.cells x.cs .pl) := ⟨_, rfl⟩
        have cZ2 : Chg [X.length + 4] Z Z2 := by rw [e3]; exact .set _ _ _
        have hHX : H.length < X.length := by have := rowOf_lt rX; omega
        have hXG := c02.1
        have hXX := c4.1
        have nb : X.length + 4 ∉ blk w := fun hb => by have := t2 _ hb; omega
        have cHZ2 : Chg [] H Z2 := by rw [e3]; exact ((c02.tr c5).tr c6).set_new (by omega) _
        have rZ2 := cZ2.row rZ (by simp; omega)
        have hcc : ∀ i ∈ blk w, Y.length ≤ i := t2
        have hi7 := insAc_ok (k := k + 1) (o := x) (bv := X.length + 4) (i := pp) (t1.chg cZ2 (fun i hi => by have := t2 i hi; simp; omega)) (by rw [e3]; simp [lt_of_get hdZ]) hple (by omega) nb
        obtain ⟨a1, cc, s1', ew⟩ := t1.so.form
        rw [ew] at hi7 ⊢
        simp only [Ac.cs] at e3
        simp [hdZ, hdY, rZ]
        rw [← e3]
        refine Hx.mapp hi7 ?_
        rintro ⟨w2, Z3⟩ ⟨u1, u2⟩
        simp only at u1 u2
        obtain ⟨a2, c2', s2, ew2⟩ := u1.form
        subst ew2
        rw [hlen] at u1 ⊢
        have rZ3 := u2.row rZ2 (fun hb => by have := t2 _ (by rw [ew]; exact hb); omega)
        simp [rZ2, rZ3]
        exact ⟨u1, cHZ2.trans u2 (fun i hi => .inr (by have := t2 i (by rw [ew]; exact hi); omega))⟩
      · have hpl' : ¬ (pp : Int) < l.length := by omega
        simp [d7_13, hpl', hpl]
        refine hx_drawn dc7_15 fun Y cY hlY hd => ?_
        have c5 := c4.tr cY
        have rY := c5.row r2 (by simp)
        have hdY := hd 4 (by simp [d7_15])
        have hlY' : Y.length = X.length + 8 := hlY
        simp [d7_15, rY]
        refine Hx.mapp (clAc_ok (k := k + 1) (h5.keep (c02.tr c5)) (by omega)) ?_
        rintro ⟨w, Z⟩ ⟨c6, t1, t2⟩
        simp only at c6 t1 t2
        have hdZ := c6.get hdY (by simp)
        have rZ := c6.row rY (by simp)
        obtain ⟨Z2, e3⟩ : ∃ Z2, Z2 = Z.set (X.length + 4) (.cells x.cs .pl) := ⟨_, rfl⟩
        have cZ2 : Chg [X.length + 4] Z Z2 := by rw [e3]; exact .set _ _ _
        have hHX : H.length < X.length := by have := rowOf_lt rX; omega
        have hXG := c02.1
        have hXX := c4.1
        have nb : X.length + 4 ∉ blk w := fun hb => by have := t2 _ hb; omega
        have cHZ2 : Chg [] H Z2 := by rw [e3]; exact ((c02.tr c5).tr c6).set_new (by omega) _
        have rZ2 := cZ2.row rZ (by simp; omega)
        have hcc : ∀ i ∈ blk w, Y.length ≤ i := t2
        have hi7 := insAc_ok (k := k + 1) (o := x) (bv := X.length + 4) (i := pp) (t1.chg cZ2 (fun i hi => by have := t2 i hi; simp; omega)) (by rw [e3]; simp [lt_of_get hdZ]) hple (by omega) nb
        obtain ⟨a1, cc, s1', ew⟩ := t1.so.form
        rw [ew] at hi7 ⊢
        simp only [Ac.cs] at e3
        simp [hdZ, hdY, rZ]
        rw [← e3]
        refine Hx.mapp hi7 ?_
        rintro ⟨w2, Z3⟩ ⟨u1, u2⟩
        simp only at u1 u2
        obtain ⟨a2, c2', s2, ew2⟩ := u1.form
        subst ew2
        rw [hlen] at u1 ⊢
        have rZ3 := u2.row rZ2 (fun hb => by have := t2 _ (by rw [ew]; exact hb); omega)
        simp [rZ2, rZ3]
        exact ⟨u1, cHZ2.trans u2 (fun i hi => .inr (by have := t2 i (by rw [ew]; exact hi); omega))⟩
end
end Go.Proofs.Ytobfodegdbfhdaa.T.Ro
end
section
/-! Turn, Limit, Port of the document. -/
set_option linter.unusedVariables false
set_option linter.unusedSimpArgs false
set_option maxHeartbeats 40000000
set_option maxRecDepth 100000
namespace Go.Proofs.Ytobfodegdbfhdaa.T.Ro
open Go Go.Ab
theorem acs_setF {l : List Ac} {i j : Nat} {v : AV} {y : Ac} (hi : i < l.length) (hj : j < 4) (hy : l[i].cs.set j v = y.cs) : (acsC l).take (i * 4 + j) ++ (v :: (acsC l).drop (i * 4 + j + 1)) = acsC (l.set i y) := by
  have hl : l = l.take i ++ l[i] :: l.drop (i + 1) := by rw [← List.drop_eq_getElem_cons hi, List.take_append_drop]
  have hc : acsC l = acsC (l.take i) ++ (l[i].cs ++ acsC (l.drop (i + 1))) := by
    conv => lhs; rw [hl]
    rw [acsC_app]
    rfl
  have hlen : (acsC (l.take i)).length = i * 4 := by simp; omega
  have hll : (acsC l).length = 4 * l.length := acsC_len
  have e1 : l.set i y = l.take i ++ y :: l.drop (i + 1) := by rw [List.set_eq_take_append_cons_drop, if_pos hi]
  have e2 : (acsC l).take (i * 4 + j) ++ (v :: (acsC l).drop (i * 4 + j + 1)) = (acsC l).set (i * 4 + j) v := by rw [List.set_eq_take_append_cons_drop, if_pos (by omega)]
  have hcs : l[i].cs.length = 4 := rfl
  rw [e2, e1, acsC_app]
  conv => lhs; rw [hc]
  rw [List.set_append_right _ _ (by omega), hlen, Nat.add_sub_cancel_left, List.set_append_left _ _ (by omega), hy]
  rfl
theorem accB_id {l : List Ac} : ∀ n, n ≤ l.length → accB l n = true → ∀ i j (hi : i < l.length) (hj : j < l.length), i < j → j < n → l[i].id < l[j].id
  | 0, _, _, i, j, _, _, _, h => by omega
  | n + 1, hn, ho, i, j, hi, hj, hij, h => by
    rw [accB] at ho
    simp only [Bool.and_eq_true, Bool.or_eq_true, decide_eq_true_eq] at ho
    by_cases hjn : j = n
    · subst hjn
      rcases ho.2.2.1 with h2 | h2
      · omega
      · rw [getdA hj, getdA (by omega : j - 1 < l.length)] at h2
        by_cases hi1 : i = j - 1
        · subst hi1; exact h2
        · have := accB_id j (by omega) ho.1 i (j - 1) hi (by omega) (by omega) (by omega)
          omega
    · exact accB_id n (by omega) ho.1 i j hi hj hij (by omega)
theorem accs_one {l : List Ac} (h : accsB l = true) {x y : Ac} (hx : x ∈ l) (hy : y ∈ l) (e : x.id = y.id) : x = y := by
  obtain ⟨i, hi, rfl⟩ := List.getElem_of_mem hx
  obtain ⟨j, hj, rfl⟩ := List.getElem_of_mem hy
  rcases Nat.lt_trichotomy i j with g | g | g
  · have := accB_id l.length (Nat.le_refl _) h i j hi hj g hj; omega
  · subst g; rfl
  · have := accB_id l.length (Nat.le_refl _) h j i hj hi g hi; omega
theorem find_mem {l : List Ac} {id : Int} {x : Ac} (h : findL l id = some x) : x ∈ l ∧ x.id = id := by
  unfold findL at h
  exact ⟨List.mem_of_find?_eq_some h, by simpa using List.find?_some h⟩
def limA (id q : Int) (y : Ac) : Ac := if y.id = id then { y with lim := q } else y
def memA (id to : Int) (y : Ac) : Ac := if y.id = id then { y with mem := to } else y
theorem lim_same {l : List Ac} {id q : Int} {x : Ac} (h : accsB l = true) (hx : findL l id = some x) : l.map (limA id q) = l.map (wA { x with lim := q }) := by
  obtain ⟨h1, h2⟩ := find_mem hx
  refine List.map_congr_left fun y hy => ?_
  unfold limA wA
  by_cases e : y.id = id
  · have := accs_one h hy h1 (by omega)
    subst this
    simp [e]
  · rw [if_neg e, if_neg (by simp only; omega)]
theorem mem_same {l : List Ac} {id to : Int} {x : Ac} (h : accsB l = true) (hx : findL l id = some x) : l.map (memA id to) = l.map (wA { x with mem := to }) := by
  obtain ⟨h1, h2⟩ := find_mem hx
  refine List.map_congr_left fun y hy => ?_
  unfold memA wA
  by_cases e : y.id = id
  · have := accs_one h hy h1 (by omega)
    subst this
    simp [e]
  · rw [if_neg e, if_neg (by simp only; omega)]
section
variable {k : Nat} {H : AH}
/-- append(.. []T{}, l...) -/
theorem appMb_ok {v : AV} {l : List Mb} (h : SM H v l) (hl : l.length ≤ 1000000) : Hx (aappend 0 (H ++ [.cells [] .pl]) 2 16 (.slice (some (H.length, 0)) 0 (some 0) 2) v) fun r => Chg [] H r.2 ∧ ClMb r.2 r.1 l ∧ ∀ i ∈ blk r.1, H.length ≤ i := by
  have hap := appendMb0 (H := H ++ [.cells [] .pl]) (b := H.length) (by simp [rowOf]) (h.keep (.app _ _)) hl
  rw [hap]
  by_cases h0 : l = []
  · rw [if_pos h0]
    exact Hx.som ⟨.app _ _, .inr ⟨h0, _, rfl, by simp [rowOf]⟩, by simp⟩
  · rw [if_neg h0]
    exact Hx.som ⟨(Chg.app _ _).tr (.app _ _), .inl (.inr ⟨_, rfl, by simp⟩), by simp⟩
theorem appAc_ok {v : AV} {l : List Ac} (h : SA H v l) (hl : l.length ≤ 1000000) : Hx (aappend 0 (H ++ [.cells [] .pl]) 4 32 (.slice (some (H.length, 0)) 0 (some 0) 4) v) fun r => Chg [] H r.2 ∧ ClAc r.2 r.1 l ∧ ∀ i ∈ blk r.1, H.length ≤ i := by
  have hap := appendAc0 (H := H ++ [.cells [] .pl]) (b := H.length) (by simp [rowOf]) (h.keep (.app _ _)) hl
  rw [hap]
  by_cases h0 : l = []
  · rw [if_pos h0]
    exact Hx.som ⟨.app _ _, .inr ⟨h0, _, rfl, by simp [rowOf]⟩, by simp⟩
  · rw [if_neg h0]
    exact Hx.som ⟨(Chg.app _ _).tr (.app _ _), .inl (.inr ⟨_, rfl, by simp⟩), by simp⟩
theorem rturn_ok {v : AV} {m : List Mb} {id kd : Int} (h : SM H v m) (hl : m.length ≤ 1000000) (hk : m.length + 40 < k) : Hx (callA ap k (.func 20 [] []) [v, .int .i64 id, .int .i64 kd] 0 H) fun r => ∃ vr, r.1 = .tuple [vr, .int .i64 (turnB m id kd).2] ∧ SM r.2 vr (turnB m id kd).1 ∧ Chg [] H r.2 := by
  obtain ⟨k, rfl⟩ : ∃ k', k = k' + 3 := ⟨k - 3, by omega⟩
  rw [hx_go fn20 rfl, b20]
  have h1 := rmembers_ok (k := k + 2) h hl (by omega)
  have h2 := rst_ok (k := k + 2) (id := id) h hl (by omega)
  have h3 := fun s => @rnext_ok (k + 1) H s kd
  obtain ⟨a, c, s, rfl⟩ := h.form
  cases hmm : membersB m with
  | false =>
    have hA : turnB m id kd = ([], 1) := by rw [turnB, hmm]; rfl
    rw [hA]
    rw [hmm] at h1
    simp [h1]
    exact ⟨.nil _ _, .refl⟩
  | true =>
  rw [hmm] at h1
  by_cases h0 : stL m id = 0
  · have hA : turnB m id kd = ([], 3) := by rw [turnB, hmm, if_pos rfl, if_pos h0]
    rw [hA]
    simp [h1, h2, h0]
    exact ⟨.nil _ _, .refl⟩
  have h4 := h3 (stL m id)
  cases hn : (nextB (stL m id) kd).2 with
  | false =>
    have hA : turnB m id kd = ([], 8) := by rw [turnB, hmm, if_pos rfl, if_neg h0, hn]; rfl
    rw [hA]
    rw [hn] at h4
    simp [h1, h2, h0, h4]
    exact ⟨.nil _ _, .refl⟩
  | true =>
  obtain ⟨ns, ens⟩ : ∃ ns, ns = (nextB (stL m id) kd).1 := ⟨_, rfl⟩
  have hA : turnB m id kd = (m.map (turnM id ns), 0) := by rw [turnB, hmm, if_pos rfl, if_neg h0, hn, if_pos rfl, ens]
  rw [hA]
  rw [hn, ← ens] at h4
  simp [h1, h2, h0, h4]
  refine Hx.mapp (appMb_ok h hl) ?_
  rintro ⟨w, H1⟩ ⟨c1, t1, t2⟩
  simp only at c1 t1 t2
  by_cases hm0 : m = []
  · subst hm0
    exact (h0 rfl).elim
  · obtain ⟨b, rfl, g1⟩ : ∃ b, w = .slice (some (b, 0)) m.length none 2 ∧ H1[b]? = some (.cells (mbsC m) .rw) := by
      rcases t1 with (⟨c, s, rfl, e⟩ | h) | ⟨e, -⟩
      · exact (hm0 e).elim
      · exact h
      · exact (hm0 e).elim
    have hbG : H.length ≤ b := t2 b (by simp)
    simp
    refine hx_up (fun i st => ∃ H', st = ⟨sp 51 [(1, .int .i64 id), (9, .int .i64 ns), (11, .slice (some (b, 0)) m.length none 2), (12, .int .i64 i)], H', []⟩ ∧ Chg [b] H1 H' ∧ H'[b]? = some (.cells (mbsC (stepL (turnM id ns) m i)) .rw)) m.length ?_ ?_ (by omega) ⟨H1, by simp [maskS], .refl, by rw [stepL_zero]; exact g1⟩
    · rintro i st hi ⟨H2, rfl, c2, g2⟩
      have hi' : (i : Int) < m.length := by omega
      have w : IntKind.i64.wrap ((i : Int) + 1) = (i : Int) + 1 := wrap_i64 (by omega) (by omega)
      obtain ⟨cur, ecur⟩ : ∃ cur, cur = stepL (turnM id ns) m i := ⟨_, rfl⟩
      have hcl : cur.length = m.length := by rw [ecur]; exact stepL_len (by omega)
      have hci : cur[i]? = some m[i] := by rw [ecur]; exact stepL_get hi
      have hcg : cur[i]'(by omega) = m[i] := by rw [List.getElem?_eq_getElem (by omega)] at hci; exact Option.some.inj hci
      have hso : SM H2 (.slice (some (b, 0)) m.length none 2) cur := SL.mk (by omega) (rowOf_rw (by rw [g2, ecur])) (by simp; omega) (by simp)
      obtain ⟨b', o', c', r, e, q0, qq⟩ := SM.all hso (by intro h; rw [h] at hcl; simp at hcl; omega)
      obtain ⟨z1, z2, z3, z4⟩ := AV.slice.inj e
      obtain ⟨rfl, rfl⟩ : b' = b ∧ o' = 0 := by simp at z1; omega
      obtain ⟨-, -, gf⟩ := qq i (by omega)
      rw [hcg] at gf
      obtain ⟨y, hy⟩ : ∃ y, y = m[i] := ⟨_, rfl⟩
      rw [← hy] at gf
      have f0 := gf 0 (by omega)
      simp only [Mb.cs, Nat.zero_add, Nat.add_zero, List.getElem?_cons_zero] at f0
      have hr : r = mbsC cur := by rw [rowOf_rw (by rw [g2, ← ecur])] at q0; exact (Option.some.inj q0).symm
      rw [← ecur] at g2
      have qX := rowOf_rw g2
      have wX : rowRw H2 0 b' = some _ := rowRw_rw g2
      rw [hr] at f0
      by_cases hp : y.id = id
      · have hset := mbs_set (l := cur) (i := i) (z := ns) (by omega)
        have hle : i * 2 + 1 + 1 ≤ 2 * cur.length := by omega
        rw [hcg, ← hy, ecur, stepL_set (f := turnM id ns) (y := { y with st := ns }) hi (by rw [← hy, turnM, if_pos hp]), ← ecur] at hset
        simp [hi', hi, qX, f0, hp, wX, hle, maskS, w]
        exact ⟨c2.tr' (.set _ _ _), by rw [List.getElem?_set_self (lt_of_get g2), hset]⟩
      · have hn := stepL_same (f := turnM id ns) hi (by rw [← hy, turnM, if_neg hp])
        simp [hi', hi, qX, f0, hp, maskS, w]
        exact ⟨c2, by rw [hn, ← ecur]; exact g2⟩
    · rintro st ⟨H2, rfl, c2, g2⟩
      rw [stepL_all] at g2
      simp
      exact ⟨SL.mk (by omega) (rowOf_rw g2) (by simp; omega) (by simp), c1.trans c2 (fun i hi => .inr (by simp at hi; omega))⟩
end
end Go.Proofs.Ytobfodegdbfhdaa.T.Ro
end
