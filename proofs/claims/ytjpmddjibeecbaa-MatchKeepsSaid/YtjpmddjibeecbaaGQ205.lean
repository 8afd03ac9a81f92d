import Derived.Test.YtjpmddjibeecbaaGQ204
section
/-! The plain laws of a match: what is traded, and with whom. -/
set_option linter.unusedVariables false
set_option linter.unusedSimpArgs false
set_option maxHeartbeats 4000000
set_option maxRecDepth 100000
namespace Go.Proofs.Ytjpmddjibeecbaa.T.Qu
open Go Go.Ab
/-- a is met ahead of b. -/
def Rs (a b : Od) : Prop := betterB a b = true ∨ (a.p = b.p ∧ a.id < b.id)
theorem Rs.no {a b : Od} (h : Rs a b) (h2 : Rs b a) (hs : a.side = b.side) : False := by
  unfold Rs betterB at h h2
  by_cases h1 : b.side = 1
  · simp [hs, h1] at h h2; omega
  · simp [hs, h1] at h h2; omega
/-- Two rows in which everything stands ahead of what is behind it, of the same, are one. -/
theorem sorted_same {R : Od → Od → Prop} : ∀ {l m : List Od}, (∀ a ∈ l, ∀ b ∈ l, R a b → R b a → False) → l.Pairwise R → m.Pairwise R → (∀ x, x ∈ l ↔ x ∈ m) → l = m
  | [], [], _, _, _, _ => rfl
  | [], b :: m, _, _, _, h => by have := (h b).2 (by simp); simp at this
  | a :: l, [], _, _, _, h => by have := (h a).1 (by simp); simp at this
  | a :: l, b :: m, ha, hl, hm, h => by
    obtain ⟨l1, l2⟩ := List.pairwise_cons.1 hl
    obtain ⟨m1, m2⟩ := List.pairwise_cons.1 hm
    have hab : a = b := by
      by_cases e : a = b
      · exact e
      · have h1 : a ∈ m := by have := (h a).1 (by simp); simpa [e] using this
        have h2 : b ∈ l := by have := (h b).2 (by simp); simpa [Ne.symm e] using this
        exact (ha a (by simp) b (by simp [h2]) (l1 b h2) (m1 a h1)).elim
    subst hab
    have hn : ∀ {k : List Od}, (∀ y ∈ k, R a y) → a ∉ k := fun hk hm => ha a (by simp) a (by simp) (hk a hm) (hk a hm)
    refine congrArg (a :: ·) (sorted_same (fun x hx y hy => ha x (by simp [hx]) y (by simp [hy])) l2 m2 fun x => ⟨fun hx => ?_, fun hx => ?_⟩)
    · have := (h x).1 (by simp [hx])
      rcases List.mem_cons.1 this with rfl | h3
      · exact (hn l1 hx).elim
      · exact h3
    · have := (h x).2 (by simp [hx])
      rcases List.mem_cons.1 this with rfl | h3
      · exact (hn m1 hx).elim
      · exact h3
theorem mem_insP {own : List Od} {o x : Od} : x ∈ insP own o ↔ x = o ∨ x ∈ own := by
  unfold insP
  conv => rhs; rw [← List.take_append_drop (atP own o own.length) own]
  simp only [List.mem_append, List.mem_cons]
  exact ⟨fun h => by rcases h with h | h | h <;> simp [h], fun h => by rcases h with h | h | h <;> simp [h]⟩
theorem mem_walkN {l : List Od} {inst side : Int} {x : Od} : ∀ n, n ≤ l.length → (x ∈ walkN l inst side n ↔ x ∈ l.take n ∧ x.inst = inst ∧ x.side = side)
  | 0, _ => by simp [walkN]
  | n + 1, hn => by
    have hnl : n < l.length := by omega
    have ih := mem_walkN (l := l) (inst := inst) (side := side) (x := x) n (by omega)
    rw [walkN, getd hnl, List.take_succ_eq_append_getElem hnl]
    simp only [List.mem_append, List.mem_singleton]
    by_cases hc : l[n].inst = inst ∧ l[n].side = side
    · rw [if_pos hc, mem_insP, ih]
      constructor
      · rintro (rfl | h)
        · exact ⟨.inr rfl, hc⟩
        · exact ⟨.inl h.1, h.2⟩
      · rintro ⟨h | rfl, h2⟩
        · exact .inr ⟨h, h2⟩
        · exact .inl rfl
    · rw [if_neg hc, ih]
      constructor
      · exact fun h => ⟨.inl h.1, h.2⟩
      · rintro ⟨h | rfl, h2⟩
        · exact ⟨h, h2⟩
        · exact (hc h2).elim
theorem right_ord {l : List Od} (h : rightL l = true) : ordB l l.length = true := by
  simp only [rightL, Bool.and_eq_true] at h
  exact h.1
theorem walkB_eq {l : List Od} {inst side : Int} (h : rightL l = true) : walkB l inst side = walkN l inst side l.length := by rw [walkB, if_pos h]
theorem mem_walkB {l : List Od} {inst side : Int} {x : Od} (h : rightL l = true) : x ∈ walkB l inst side ↔ x ∈ l ∧ x.inst = inst ∧ x.side = side := by
  rw [walkB_eq h, mem_walkN _ (Nat.le_refl _), List.take_length]
theorem walkN_rs {l : List Od} {inst side : Int} (ho : ordB l l.length = true) : ∀ n, n ≤ l.length → (walkN l inst side n).Pairwise Rs
  | 0, _ => .nil
  | n + 1, hn => by
    obtain ⟨-, ih2, ih3⟩ := walkN_eq (inst := inst) (side := side) ho n (by omega)
    have ih := walkN_rs (inst := inst) (side := side) ho n (by omega)
    have hnl : n < l.length := by omega
    rw [walkN, getd hnl]
    by_cases hc : l[n].inst = inst ∧ l[n].side = side
    · rw [if_pos hc]
      obtain ⟨own, eo⟩ : ∃ own, own = walkN l inst side n := ⟨_, rfl⟩
      rw [← eo] at ih ih2 ih3 ⊢
      have hid : ∀ a ∈ own, a.side = side ∧ a.id < l[n].id := fun a ha => ⟨(ih3 a ha).1, (ih3 a ha).2 n hnl (Nat.le_refl _)⟩
      obtain ⟨k1, k2, k3⟩ := rpos_at ih2 hid hc.2
      rw [insP, k1]
      have hsp : (own.take (rpos l[n] own) ++ own.drop (rpos l[n] own)).Pairwise Rs := by rw [List.take_append_drop]; exact ih
      obtain ⟨p1, p2, p3⟩ := List.pairwise_append.1 hsp
      refine List.pairwise_append.2 ⟨p1, List.pairwise_cons.2 ⟨fun b hb => .inl (k3 b hb), p2⟩, fun a ha b hb => ?_⟩
      rcases List.mem_cons.1 hb with rfl | hb
      · have h1 := k2 a ha
        have h2 := hid a (List.mem_of_mem_take ha)
        unfold betterB at h1
        unfold Rs betterB
        rw [hc.2] at h1
        rw [h2.1]
        by_cases hs1 : side = 1
        · simp [hs1] at h1 ⊢; omega
        · simp [hs1] at h1 ⊢; omega
      · exact p3 a ha b hb
    · rw [if_neg hc]
      exact ih
theorem walkB_rs {l : List Od} {inst side : Int} (h : rightL l = true) : (walkB l inst side).Pairwise Rs := by
  rw [walkB_eq h]; exact walkN_rs (right_ord h) _ (Nat.le_refl _)
/-- Different orders have different numbers. -/
def Rd (a b : Od) : Prop := a.id ≠ b.id
theorem right_up {l : List Od} (h : rightL l = true) : l.Pairwise fun a b => a.id < b.id :=
  List.pairwise_iff_getElem.2 fun i j hi hj hij => ordB_id l.length (Nat.le_refl _) (right_ord h) i j hi hj hij hj
theorem ordB_of {l : List Od} (hr : ∀ x ∈ l, rightO x = true) (hu : l.Pairwise fun a b => a.id < b.id) : ∀ n, n ≤ l.length → ordB l n = true
  | 0, _ => rfl
  | n + 1, hn => by
    have hnl : n < l.length := by omega
    rw [ordB, ordB_of hr hu n (by omega), getd hnl, hr _ (List.getElem_mem hnl)]
    by_cases h0 : n = 0
    · simp [h0]
    · rw [getd (by omega : n - 1 < l.length)]
      have := List.pairwise_iff_getElem.1 hu (n - 1) n (by omega) hnl (by omega)
      simp [this]
theorem rightL_of {l : List Od} (hr : ∀ x ∈ l, rightO x = true) (hu : l.Pairwise fun a b => a.id < b.id) (hl : l.length ≤ 32) : rightL l = true := by
  rw [rightL, ordB_of hr hu _ (Nat.le_refl _)]
  simp [hl]
theorem up_one {l : List Od} (hu : l.Pairwise fun a b => a.id < b.id) {x y : Od} (hx : x ∈ l) (hy : y ∈ l) (h : x.id = y.id) : x = y := by
  obtain ⟨i, hi, rfl⟩ := List.getElem_of_mem hx
  obtain ⟨j, hj, rfl⟩ := List.getElem_of_mem hy
  rcases Nat.lt_trichotomy i j with g | g | g
  · have := List.pairwise_iff_getElem.1 hu i j hi hj g; omega
  · subst g; rfl
  · have := List.pairwise_iff_getElem.1 hu j i hj hi g; omega
theorem walkB_rd {l : List Od} {inst side : Int} (h : rightL l = true) : (walkB l inst side).Pairwise Rd := by
  rw [walkB_eq h]
  exact (walkN_eq (right_ord h) _ (Nat.le_refl _)).2.1.imp fun h => h.2
/-! a run over what is met -/
def run (o : Od) : List Od → Int → List (Od × Int) × Int
  | [], left => ([], left)
  | x :: w, left => if left = 0 ∨ reachB o x.p = false then ([], left) else if x.acc = o.acc then run o w left
    else ((x, min left x.q) :: (run o w (left - min left x.q)).1, (run o w (left - min left x.q)).2)
/-- What stays of what is met. -/
def aft (o : Od) : List Od → Int → List Od
  | [], _ => []
  | x :: w, left => if left = 0 ∨ reachB o x.p = false then x :: w else if x.acc = o.acc then x :: aft o w left
    else if x.q - min left x.q = 0 then aft o w (left - min left x.q) else { x with q := x.q - min left x.q } :: aft o w (left - min left x.q)
def decs (T : List (Od × Int)) (r : Od) : Od := T.foldl (fun r e => decO e.1.id e.2 r) r
@[simp] theorem decs_nil (r : Od) : decs [] r = r := rfl
@[simp] theorem decs_id : decs [] = id := rfl
@[simp] theorem decs_cons (e : Od × Int) (T : List (Od × Int)) (r : Od) : decs (e :: T) r = decs T (decO e.1.id e.2 r) := rfl
theorem mtch_run {o : Od} : ∀ (w rest : List Od) (ts : List Tr) (left : Int), mtch o w (rest, ts, left) = (rest.map (decs (run o w left).1), ts ++ (run o w left).1.map (fun e => trO o e.1 e.2), (run o w left).2)
  | [], rest, ts, left => by simp [mtch, run]
  | x :: w, rest, ts, left => by
    rw [mtch, run]
    split
    · simp
    · split
      · exact mtch_run w rest ts left
      · rw [mtch_run w]
        simp
theorem decO_same (id q : Int) (r : Od) : (decO id q r).id = r.id ∧ (decO id q r).acc = r.acc ∧ (decO id q r).inst = r.inst ∧ (decO id q r).side = r.side ∧ (decO id q r).p = r.p := by
  unfold decO; split <;> simp
theorem decs_same : ∀ (T : List (Od × Int)) (r : Od), (decs T r).id = r.id ∧ (decs T r).acc = r.acc ∧ (decs T r).inst = r.inst ∧ (decs T r).side = r.side ∧ (decs T r).p = r.p
  | [], r => by simp
  | e :: T, r => by
    have h1 := decs_same T (decO e.1.id e.2 r)
    have h2 := decO_same e.1.id e.2 r
    rw [decs_cons]
    exact ⟨h1.1.trans h2.1, h1.2.1.trans h2.2.1, h1.2.2.1.trans h2.2.2.1, h1.2.2.2.1.trans h2.2.2.2.1, h1.2.2.2.2.trans h2.2.2.2.2⟩
theorem decO_ne {id q : Int} {r : Od} (h : r.id ≠ id) : decO id q r = r := by unfold decO; rw [if_neg h]
theorem decs_ne {T : List (Od × Int)} {r : Od} (h : ∀ e ∈ T, e.1.id ≠ r.id) : decs T r = r := by
  induction T with
  | nil => rfl
  | cons e T ih =>
    rw [decs_cons, decO_ne (fun h2 => h e (by simp) h2.symm)]
    exact ih fun e he => h e (by simp [he])
/-- What a run is like. -/
theorem run_ok {o : Od} : ∀ (w : List Od) (left : Int), 0 ≤ left → (∀ x ∈ w, 1 ≤ x.q) → 0 ≤ (run o w left).2 ∧ ((run o w left).1.map (·.1)).Sublist w ∧
    (∀ e ∈ (run o w left).1, 1 ≤ e.2 ∧ e.2 ≤ e.1.q ∧ reachB o e.1.p = true ∧ e.1.acc ≠ o.acc) ∧ ((run o w left).1.map (·.2)).sum + (run o w left).2 = left
  | [], left, h, _ => by simp [run, h]
  | x :: w, left, h, hq => by
    have hx := hq x (by simp)
    have hw : ∀ x ∈ w, 1 ≤ x.q := fun y hy => hq y (by simp [hy])
    rw [run]
    split
    · simp [h]
    · rename_i hc
      have hre : reachB o x.p = true := by
        cases hr : reachB o x.p with
        | true => rfl
        | false => exact (hc (.inr hr)).elim
      have hl : left ≠ 0 := fun h => hc (.inl h)
      split
      · obtain ⟨a, b, c, d⟩ := run_ok (o := o) w left h hw
        exact ⟨a, b.cons _, c, d⟩
      · rename_i hacc
        obtain ⟨a, b, c, d⟩ := run_ok (o := o) w (left - min left x.q) (by omega) hw
        refine ⟨a, by simpa using b, fun e he => ?_, by simp; omega⟩
        rcases List.mem_cons.1 he with rfl | he
        · exact ⟨by simp only; omega, by simp only; omega, hre, hacc⟩
        · exact c e he
theorem run_zero {o : Od} : ∀ (w : List Od), run o w 0 = ([], 0) ∧ aft o w 0 = w
  | [] => by simp [run, aft]
  | x :: w => by simp [run, aft]
/-- What stays is what was met, less what was taken. -/
theorem aft_eq {o : Od} : ∀ (w : List Od) (left : Int), 0 ≤ left → (∀ x ∈ w, 1 ≤ x.q) → w.Pairwise Rd → aft o w left = (w.map (decs (run o w left).1)).filter fun x => !decide (x.q = 0)
  | [], left, _, _, _ => by simp [aft]
  | x :: w, left, h, hq, hd => by
    have hx := hq x (by simp)
    have hw : ∀ x ∈ w, 1 ≤ x.q := fun y hy => hq y (by simp [hy])
    obtain ⟨d1, d2⟩ := List.pairwise_cons.1 hd
    have hT : ∀ left', 0 ≤ left' → ∀ e ∈ (run o w left').1, e.1.id ≠ x.id := fun left' h' e he => by
      have := (run_ok (o := o) w left' h' hw).2.1
      have := this.subset (List.mem_map_of_mem he)
      exact (d1 _ this).symm
    have hall : (x :: w).filter (fun x => !decide (x.q = 0)) = x :: w := List.filter_eq_self.2 fun y hy => by
      have := hq y hy
      simp; omega
    rw [aft, run]
    split
    · simpa using hall.symm
    · rename_i hc
      split
      · rw [aft_eq w left h hw d2, List.map_cons, decs_ne (hT left h), List.filter_cons_of_pos (by simp; omega)]
      · have e1 : ∀ y ∈ w, decs ((x, min left x.q) :: (run o w (left - min left x.q)).1) y = decs (run o w (left - min left x.q)).1 y := fun y hy => by
          rw [decs_cons, decO_ne (d1 y hy).symm]
        have e2 : decs ((x, min left x.q) :: (run o w (left - min left x.q)).1) x = { x with q := x.q - min left x.q } := by
          rw [decs_cons, decO, if_pos rfl]
          exact decs_ne (hT _ (by omega))
        rw [List.map_cons, e2, List.map_congr_left e1, aft_eq w _ (by omega) hw d2]
        split
        · rename_i h0
          rw [List.filter_cons_of_neg (by simp [h0])]
        · rename_i h0
          rw [List.filter_cons_of_pos (by simp [h0])]
end Go.Proofs.Ytjpmddjibeecbaa.T.Qu
end
section
/-! The plain laws of a match, second part: what rests, where it stops, an order that is cut in two. -/
set_option linter.unusedVariables false
set_option linter.unusedSimpArgs false
set_option maxHeartbeats 4000000
set_option maxRecDepth 100000
namespace Go.Proofs.Ytjpmddjibeecbaa.T.Qu
open Go Go.Ab
/-- How much of it was taken. -/
def sumI (T : List (Od × Int)) (i : Int) : Int := (T.map fun e => if e.1.id = i then e.2 else 0).sum
@[simp] theorem sumI_nil (i : Int) : sumI [] i = 0 := rfl
@[simp] theorem sumI_cons (e : Od × Int) (T : List (Od × Int)) (i : Int) : sumI (e :: T) i = (if e.1.id = i then e.2 else 0) + sumI T i := by simp [sumI]
theorem decs_sum : ∀ (T : List (Od × Int)) (r : Od), decs T r = { r with q := r.q - sumI T r.id }
  | [], r => by simp
  | e :: T, r => by
    rw [decs_cons, decs_sum T, sumI_cons, (decO_same _ _ _).1]
    unfold decO
    by_cases h : r.id = e.1.id
    · simp [h]; omega
    · simp [h, Ne.symm h]
theorem sumI_no {T : List (Od × Int)} {i : Int} (h : ∀ e ∈ T, e.1.id ≠ i) : sumI T i = 0 := by
  induction T with
  | nil => rfl
  | cons e T ih => rw [sumI_cons, ih fun e he => h e (by simp [he]), if_neg (h e (by simp))]; rfl
theorem sumI_one {T : List (Od × Int)} (hd : (T.map (·.1)).Pairwise Rd) {e : Od × Int} (he : e ∈ T) : sumI T e.1.id = e.2 := by
  induction T with
  | nil => simp at he
  | cons x T ih =>
    obtain ⟨d1, d2⟩ := List.pairwise_cons.1 hd
    rw [sumI_cons]
    rcases List.mem_cons.1 he with rfl | he
    · rw [sumI_no fun y hy => (d1 _ (List.mem_map_of_mem hy)).symm]; simp
    · rw [ih d2 he, if_neg (d1 _ (List.mem_map_of_mem he))]; simp
theorem sumI_pos {T : List (Od × Int)} {i : Int} (h : ∀ e ∈ T, 0 ≤ e.2) : 0 ≤ sumI T i := by
  induction T with
  | nil => simp
  | cons e T ih =>
    rw [sumI_cons]
    have := ih fun e he => h e (by simp [he])
    have := h e (by simp)
    split <;> omega
def sumq (l : List Od) : Int := (l.map Od.q).sum
theorem sumq_decO {l : List Od} (hu : l.Pairwise fun a b => a.id < b.id) {x : Od} (hx : x.id ∈ l.map Od.id) (q : Int) : sumq (l.map (decO x.id q)) = sumq l - q := by
  induction l with
  | nil => simp at hx
  | cons a l ih =>
    obtain ⟨u1, u2⟩ := List.pairwise_cons.1 hu
    simp only [List.map_cons, sumq, List.sum_cons] at ih ⊢
    by_cases h : a.id = x.id
    · have : l.map (decO x.id q) = l := by
        conv => rhs; rw [← List.map_id l]
        exact List.map_congr_left fun y hy => decO_ne (by have := u1 y hy; omega)
      rw [this, decO, if_pos h]; simp only; omega
    · rw [decO_ne h, ih u2 (by simpa [Ne.symm h] using hx)]; omega
theorem sumq_decs : ∀ {T : List (Od × Int)} {l : List Od}, (l.Pairwise fun a b => a.id < b.id) → (∀ e ∈ T, e.1.id ∈ l.map Od.id) → sumq (l.map (decs T)) = sumq l - (T.map (·.2)).sum
  | [], l, _, _ => by simp
  | e :: T, l, hu, h => by
    have e1 : l.map (decs (e :: T)) = (l.map (decO e.1.id e.2)).map (decs T) := by simp [Function.comp_def]
    have hu' : (l.map (decO e.1.id e.2)).Pairwise fun a b => a.id < b.id := List.Pairwise.map _ (fun a b h => by rw [(decO_same _ _ _).1, (decO_same _ _ _).1]; exact h) hu
    have hid : (l.map (decO e.1.id e.2)).map Od.id = l.map Od.id := by
      rw [List.map_map]
      exact List.map_congr_left fun y _ => (decO_same _ _ _).1
    rw [e1, sumq_decs hu' (fun f hf => by rw [hid]; exact h f (by simp [hf])), sumq_decO hu (h e (by simp))]
    simp; omega
theorem sumq_filter (l : List Od) : sumq (l.filter fun x => !decide (x.q = 0)) = sumq l := by
  induction l with
  | nil => rfl
  | cons a l ih =>
    unfold sumq at ih ⊢
    by_cases h : a.q = 0
    · rw [List.filter_cons_of_neg (by simp [h]), ih]; simp [h]
    · rw [List.filter_cons_of_pos (by simp [h])]
      simp [ih]
/-- What a match comes to. -/
structure Mt (l : List Od) (o : Od) (T : List (Od × Int)) (left : Int) : Prop where
  m : matchB l o = ((l.map (decs T)).filter (fun x => !decide (x.q = 0)), T.map (fun e => trO o e.1 e.2), left, 0)
  r : run o (walkB l o.inst (3 - o.side)) o.q = (T, left)
  left0 : 0 ≤ left
  sum : (T.map (·.2)).sum + left = o.q
  sub : (T.map (·.1)).Sublist (walkB l o.inst (3 - o.side))
  each : ∀ e ∈ T, 1 ≤ e.2 ∧ e.2 ≤ e.1.q ∧ reachB o e.1.p = true ∧ e.1.acc ≠ o.acc
  mem : ∀ e ∈ T, e.1 ∈ l ∧ e.1.inst = o.inst ∧ e.1.side = 3 - o.side
  dec : ∀ r ∈ l, 0 ≤ (decs T r).q ∧ (decs T r).q ≤ r.q
  rgt : rightL ((l.map (decs T)).filter (fun x => !decide (x.q = 0))) = true
  aft : walkB ((l.map (decs T)).filter (fun x => !decide (x.q = 0))) o.inst (3 - o.side) = aft o (walkB l o.inst (3 - o.side)) o.q
theorem right_dec {x : Od} {q : Int} (h : rightO x = true) (h1 : 1 ≤ q) (h2 : q ≤ x.q) : rightO { x with q := q } = true := by
  unfold rightO at h ⊢
  simp only [Bool.and_eq_true, Bool.or_eq_true, decide_eq_true_eq] at h ⊢
  omega
theorem matched {l : List Od} {o : Od} (hl : rightL l = true) (ho : rightO o = true) : ∃ T left, Mt l o T left := by
  obtain ⟨w, ew⟩ : ∃ w, w = walkB l o.inst (3 - o.side) := ⟨_, rfl⟩
  have hmw : ∀ x, x ∈ w ↔ x ∈ l ∧ x.inst = o.inst ∧ x.side = 3 - o.side := fun x => by rw [ew]; exact mem_walkB hl
  have hrl := (rightL_mem hl).1
  have hup := right_up hl
  have hwq : ∀ x ∈ w, 1 ≤ x.q := fun x hx => (right_q (hrl x ((hmw x).1 hx).1)).1
  have hq := (right_q ho).1
  have hwd : w.Pairwise Rd := by rw [ew]; exact walkB_rd hl
  have hws : w.Pairwise Rs := by rw [ew]; exact walkB_rs hl
  obtain ⟨a, b, c, d⟩ := run_ok (o := o) w o.q (by omega) hwq
  have haft := aft_eq (o := o) w o.q (by omega) hwq hwd
  obtain ⟨T, eT⟩ : ∃ T, T = (run o w o.q).1 := ⟨_, rfl⟩
  obtain ⟨left, el⟩ : ∃ left, left = (run o w o.q).2 := ⟨_, rfl⟩
  rw [← eT] at b c d haft
  rw [← el] at a d
  have hTd : (T.map (·.1)).Pairwise Rd := hwd.sublist b
  have hTl : ∀ e ∈ T, e.1 ∈ l ∧ e.1.inst = o.inst ∧ e.1.side = 3 - o.side := fun e he => (hmw _).1 (b.subset (List.mem_map_of_mem he))
  have hdec : ∀ r ∈ l, 0 ≤ (decs T r).q ∧ (decs T r).q ≤ r.q := fun r hr => by
    rw [decs_sum]
    simp only
    have h1 := (right_q (hrl r hr)).1
    by_cases hx : ∃ e ∈ T, e.1.id = r.id
    · obtain ⟨e, he, hid⟩ := hx
      have h2 := sumI_one hTd he
      have h3 := c e he
      have h4 := up_one hup (hTl e he).1 hr hid
      rw [hid] at h2
      rw [← h4] at h1 h2 ⊢
      omega
    · rw [sumI_no fun e he h => hx ⟨e, he, h⟩]; omega
  have hrr : rightL ((l.map (decs T)).filter (fun x => !decide (x.q = 0))) = true := by
    refine rightL_of (fun x hx => ?_) ?_ ?_
    · obtain ⟨h1, h2⟩ := List.mem_filter.1 hx
      obtain ⟨r, hr, rfl⟩ := List.mem_map.1 h1
      have h3 := hdec r hr
      rw [decs_sum] at h2 h3 ⊢
      simp at h2 h3
      exact right_dec (hrl r hr) (by omega) (by omega)
    · exact (List.Pairwise.map _ (fun a b h => by rw [(decs_same _ _).1, (decs_same _ _).1]; exact h) hup).filter _
    · refine Nat.le_trans (List.length_filter_le _ _) ?_
      rw [List.length_map]
      exact (rightL_mem hl).2
  have hrun : run o w o.q = (T, left) := by rw [eT, el]
  refine ⟨T, left, ?_, by rw [← ew]; exact hrun, a, d, by rw [← ew]; exact b, c, hTl, hdec, hrr, ?_⟩
  · rw [matchB, hl, ho, ← ew]
    simp only [Bool.and_self, if_true]
    rw [mtch_run, hrun]
    simp
  · rw [← ew, haft]
    refine sorted_same (R := Rs) (fun x hx y hy h1 h2 => h1.no h2 ?_) (walkB_rs hrr) ?_ fun x => ?_
    · rw [((mem_walkB hrr).1 hx).2.2, ((mem_walkB hrr).1 hy).2.2]
    · refine (List.Pairwise.map _ (fun a b h => ?_) hws).filter _
      have h1 := decs_same T a
      have h2 := decs_same T b
      unfold Rs betterB at h ⊢
      rw [h1.1, h1.2.2.2.1, h1.2.2.2.2, h2.1, h2.2.2.2.2]
      exact h
    · rw [mem_walkB hrr]
      simp only [List.mem_filter, List.mem_map]
      constructor
      · rintro ⟨⟨⟨r, hr, rfl⟩, hq⟩, hi, hs⟩
        rw [(decs_same T r).2.2.1] at hi
        rw [(decs_same T r).2.2.2.1] at hs
        exact ⟨⟨r, (hmw r).2 ⟨hr, hi, hs⟩, rfl⟩, hq⟩
      · rintro ⟨⟨r, hr, rfl⟩, hq⟩
        have := (hmw r).1 hr
        rw [(decs_same T r).2.2.1, (decs_same T r).2.2.2.1]
        exact ⟨⟨⟨r, this.1, rfl⟩, hq⟩, this.2⟩
/-- Where something is left nothing that rests would trade with it. -/
theorem aft_stop {o : Od} {s : Int} (hos : o.side = 1 ∨ o.side = 2) (hso : s = 3 - o.side) : ∀ (w : List Od) (left : Int), (∀ x ∈ w, x.side = s) → w.Pairwise Rs → 0 < (run o w left).2 → ∀ y ∈ aft o w left, y.acc = o.acc ∨ reachB o y.p = false
  | [], left, _, _, _ => by simp [aft]
  | x :: w, left, hs, hp, h => by
    obtain ⟨p1, p2⟩ := List.pairwise_cons.1 hp
    have hs' : ∀ x ∈ w, x.side = s := fun x hx => hs x (by simp [hx])
    rw [run] at h
    rw [aft]
    split at h
    · rename_i hc
      rw [if_pos hc]
      have hr : reachB o x.p = false := by
        rcases hc with hc | hc
        · simp only at h; omega
        · exact hc
      intro y hy
      rcases List.mem_cons.1 hy with rfl | hy
      · exact .inr hr
      · refine .inr ?_
        have h1 := p1 y hy
        have h2 := hs x (by simp)
        have h3 := hs' y hy
        unfold Rs betterB at h1
        unfold reachB at hr ⊢
        rw [h2, hso] at h1
        by_cases h4 : o.side = 1
        · simp [h4] at h1 hr ⊢; omega
        · by_cases h5 : (3 : Int) - o.side = 1
          · simp [h4, h5] at h1 hr ⊢; omega
          · simp [h4, h5] at h1 hr ⊢; omega
    · rename_i hc
      rw [if_neg hc]
      split at h
      · rename_i ha
        rw [if_pos ha]
        intro y hy
        rcases List.mem_cons.1 hy with rfl | hy
        · exact .inl ha
        · exact aft_stop hos hso w left hs' p2 h y hy
      · rename_i ha
        rw [if_neg ha]
        simp only at h
        split
        · exact aft_stop hos hso w _ hs' p2 h
        · rename_i h0
          have : left - min left x.q = 0 := by omega
          rw [this, (run_zero w).1] at h
          simp at h
/-- An order that is cut in two. -/
def same3 (a b : Tr) : Bool := decide (a.b = b.b) && decide (a.s = b.s) && decide (a.p = b.p)
/-- Trades joined, the last one ahead. -/
def jn1 (out : List Tr) (t : Tr) : List Tr := match out with
  | [] => [t]
  | z :: out => if same3 z t = true then { z with q := z.q + t.q } :: out else t :: z :: out
def jn (T : List Tr) : List Tr := T.foldl jn1 []
theorem jn1_two {out : List Tr} {b s i q r p : Int} : jn1 (jn1 out ⟨b, s, i, q, p⟩) ⟨b, s, i, r, p⟩ = jn1 out ⟨b, s, i, q + r, p⟩ := by
  cases out with
  | nil => simp [jn1, same3]
  | cons z out =>
    by_cases h : same3 z ⟨b, s, i, q, p⟩ = true
    · have h2 : same3 { z with q := z.q + q } ⟨b, s, i, r, p⟩ = true := h
      have h3 : same3 z ⟨b, s, i, q + r, p⟩ = true := h
      simp only [jn1, h, h2, h3, if_true]
      congr 2
      omega
    · have h3 : ¬ same3 z ⟨b, s, i, q + r, p⟩ = true := h
      simp only [jn1, h, h3, if_false]
      simp [same3]
theorem trO_two {o x y : Od} (h1 : x.acc = y.acc) (h2 : x.p = y.p) {q r : Int} {out : List Tr} : jn1 (jn1 out (trO o x q)) (trO o y r) = jn1 out (trO o x (q + r)) := by
  unfold trO
  rw [← h1, ← h2]
  split <;> exact jn1_two
theorem run_cut {o : Od} : ∀ (w : List Od) (a b : Int), 0 ≤ a → 0 ≤ b → (∀ x ∈ w, 1 ≤ x.q) →
    (run o w a).2 + (run o (aft o w a) b).2 = (run o w (a + b)).2 ∧ (∀ i, sumI (run o w a).1 i + sumI (run o (aft o w a) b).1 i = sumI (run o w (a + b)).1 i) ∧
    ∀ out, (((run o w a).1 ++ (run o (aft o w a) b).1).map fun e => trO o e.1 e.2).foldl jn1 out = ((run o w (a + b)).1.map fun e => trO o e.1 e.2).foldl jn1 out
  | [], a, b, ha, hb, _ => by simp [run, aft]
  | x :: w, a, b, ha, hb, hq => by
    have hx := hq x (by simp)
    have hw : ∀ x ∈ w, 1 ≤ x.q := fun y hy => hq y (by simp [hy])
    by_cases ha0 : a = 0
    · subst ha0
      rw [(run_zero _).1, (run_zero _).2]
      simp
    cases hr : reachB o x.p with
    | false =>
      simp [run, aft, hr]
    | true =>
      have hab : a + b ≠ 0 := by omega
      by_cases hacc : x.acc = o.acc
      · have hb2 : ∀ v, run o (x :: v) b = run o v b := fun v => by
          by_cases hb0 : b = 0
          · subst hb0; rw [(run_zero _).1, (run_zero _).1]
          · rw [run]; simp [hb0, hr, hacc]
        have e1 : run o (x :: w) a = run o w a := by rw [run]; simp [ha0, hr, hacc]
        have e2 : run o (x :: w) (a + b) = run o w (a + b) := by rw [run]; simp [hab, hr, hacc]
        have e3 : aft o (x :: w) a = x :: aft o w a := by rw [aft]; simp [ha0, hr, hacc]
        rw [e1, e2, e3, hb2]
        exact run_cut w a b ha hb hw
      · by_cases hle : x.q ≤ a
        · have m1 : min a x.q = x.q := by omega
          have m2 : min (a + b) x.q = x.q := by omega
          have e1 : run o (x :: w) a = ((x, x.q) :: (run o w (a - x.q)).1, (run o w (a - x.q)).2) := by rw [run]; simp [ha0, hr, hacc, m1]
          have e2 : run o (x :: w) (a + b) = ((x, x.q) :: (run o w (a + b - x.q)).1, (run o w (a + b - x.q)).2) := by rw [run]; simp [hab, hr, hacc, m2]
          have e3 : aft o (x :: w) a = aft o w (a - x.q) := by rw [aft]; simp [ha0, hr, hacc, m1]
          obtain ⟨i1, i2, i3⟩ := run_cut w (a - x.q) b (by omega) hb hw
          rw [show a - x.q + b = a + b - x.q by omega] at i1 i2 i3
          rw [e1, e2, e3]
          refine ⟨i1, fun i => ?_, fun out => ?_⟩
          · have := i2 i
            simp only [sumI_cons]; omega
          · exact i3 (jn1 out (trO o x x.q))
        · have m1 : min a x.q = a := by omega
          have hn : ¬ x.q - a = 0 := by omega
          have e1 : run o (x :: w) a = ([(x, a)], 0) := by rw [run]; simp [ha0, hr, hacc, m1, (run_zero w).1]
          have e3 : aft o (x :: w) a = { x with q := x.q - a } :: w := by rw [aft]; simp [ha0, hr, hacc, m1, hn, (run_zero w).2]
          by_cases hb0 : b = 0
          · subst hb0
            simp [(run_zero _).1, e1]
          · obtain ⟨q2, eq2⟩ : ∃ q2, q2 = min b (x.q - a) := ⟨_, rfl⟩
            have m2 : min (a + b) x.q = a + q2 := by omega
            have e4 : run o ({ x with q := x.q - a } :: w) b = (({ x with q := x.q - a }, q2) :: (run o w (b - q2)).1, (run o w (b - q2)).2) := by rw [run]; simp [hb0, hr, hacc, eq2]
            have e2 : run o (x :: w) (a + b) = ((x, a + q2) :: (run o w (b - q2)).1, (run o w (b - q2)).2) := by
              rw [run]; simp [hab, hr, hacc, m2]
              rw [show a + b - (a + q2) = b - q2 by omega]
              exact ⟨rfl, rfl⟩
            rw [e1, e2, e3, e4]
            refine ⟨by simp, fun i => ?_, fun out => ?_⟩
            · simp only [sumI_cons, sumI_nil]
              by_cases h : x.id = i
              · simp [h]; omega
              · simp [h]
            · simp only [List.cons_append, List.nil_append, List.map_cons, List.foldl_cons]
              rw [trO_two (x := x) (y := { x with q := x.q - a }) rfl rfl]
theorem run_q {o : Od} {z : Int} : ∀ (w : List Od) (left : Int), run { o with q := z } w left = run o w left ∧ aft { o with q := z } w left = aft o w left
  | [], left => by simp [run, aft]
  | x :: w, left => by
    have hr : reachB { o with q := z } x.p = reachB o x.p := rfl
    have h1 := fun l => (run_q (o := o) (z := z) w l).1
    have h2 := fun l => (run_q (o := o) (z := z) w l).2
    rw [run, run, aft, aft, hr, h1, h1, h2, h2]
    exact ⟨rfl, rfl⟩
theorem filter_two {p : Od → Bool} {f g h : Od → Od} {a : List Od} (h1 : ∀ r ∈ a, f (g r) = h r) (h2 : ∀ r ∈ a, p (g r) = false → p (h r) = false) : (((a.map g).filter p).map f).filter p = (a.map h).filter p := by
  induction a with
  | nil => rfl
  | cons r a ih =>
    have ih := ih (fun r hr => h1 r (by simp [hr])) (fun r hr => h2 r (by simp [hr]))
    have e1 := h1 r (by simp)
    have e2 := h2 r (by simp)
    cases hp : p (g r) with
    | false =>
      rw [List.map_cons, List.filter_cons_of_neg (by simp [hp]), ih, List.map_cons, List.filter_cons_of_neg (by simp [e2 hp])]
    | true =>
      rw [List.map_cons, List.filter_cons_of_pos hp, List.map_cons, List.map_cons, e1]
      cases hh : p (h r) with
      | false => rw [List.filter_cons_of_neg (by simp [hh]), List.filter_cons_of_neg (by simp [hh]), ih]
      | true => rw [List.filter_cons_of_pos hh, List.filter_cons_of_pos hh, ih]
/-- Cut in two it comes to the same. -/
theorem cut_same {a : List Od} {o : Od} {z : Int} (ha : rightL a = true) (ho : rightO o = true) (h1 : 1 ≤ z) (h2 : z < o.q) :
    ∃ B T left C U one V two, matchB a o = (B, T, left, 0) ∧ matchB a { o with q := z } = (C, U, one, 0) ∧ matchB C { o with q := o.q - z } = (B, V, two, 0) ∧ one + two = left ∧ jn T = jn (U ++ V) := by
  obtain ⟨T, left, m⟩ := matched ha ho
  have hox := right_dec ho h1 (by omega : z ≤ o.q)
  have hoy := right_dec ho (by omega : 1 ≤ o.q - z) (by omega : o.q - z ≤ o.q)
  obtain ⟨U, one, m1⟩ := matched ha hox
  obtain ⟨V, two, m2⟩ := matched m1.rgt hoy
  have r0 := m.r
  have r1 := m1.r
  have r2 := m2.r
  simp only at r1 r2
  have a1 := m1.aft
  simp only at a1
  rw [a1] at r2
  rw [(run_q _ _).1] at r1 r2
  rw [(run_q _ _).2] at r2
  have hwq : ∀ x ∈ walkB a o.inst (3 - o.side), 1 ≤ x.q := fun x hx => (right_q ((rightL_mem ha).1 x ((mem_walkB ha).1 hx).1)).1
  obtain ⟨c1, c2, c3⟩ := run_cut (o := o) (walkB a o.inst (3 - o.side)) z (o.q - z) (by omega) (by omega) hwq
  rw [show z + (o.q - z) = o.q by omega, r1, r2, r0] at c1 c2 c3
  refine ⟨(a.map (decs T)).filter (fun x => !decide (x.q = 0)), T.map (fun e : Od × Int => trO o e.1 e.2), left, (a.map (decs U)).filter (fun x => !decide (x.q = 0)), U.map (fun e : Od × Int => trO o e.1 e.2), one, V.map (fun e : Od × Int => trO o e.1 e.2), two, m.m, m1.m, ?_, c1, ?_⟩
  · refine m2.m.trans ?_
    have hdd : ∀ r, decs V (decs U r) = decs T r := fun r => by
      have := c2 r.id
      rw [decs_sum V, decs_sum U, decs_sum T]
      simp only at this ⊢
      congr 1
      omega
    refine Prod.ext (filter_two (p := fun x => !decide (x.q = 0)) (h := decs T) (fun r _ => hdd r) fun r hr hp => ?_) rfl
    have g1 := m.dec r hr
    have g2 := c2 r.id
    have g3 : 0 ≤ sumI V r.id := sumI_pos fun e he => by have := m2.each e he; omega
    rw [decs_sum] at hp g1 ⊢
    simp at hp g1 g2 ⊢
    omega
  · have := c3 []
    rw [List.map_append] at this
    exact this.symm
end Go.Proofs.Ytjpmddjibeecbaa.T.Qu
end
section
/-! The plain laws of a match, third part: what is kept, what no longer crosses. -/
set_option linter.unusedVariables false
set_option linter.unusedSimpArgs false
set_option maxHeartbeats 4000000
set_option maxRecDepth 100000
namespace Go.Proofs.Ytjpmddjibeecbaa.T.Qu
open Go Go.Ab
theorem Drawn.right {l : List Od} {id : Int} (h : Drawn l id) (hl : l.length ≤ 32) : rightL l = true := by
  refine rightL_of (fun x hx => ?_) h.up hl
  have h1 := h.ok x hx
  have h2 := h.top
  unfold rightO
  simp only [Bool.and_eq_true, Bool.or_eq_true, decide_eq_true_eq]
  omega
theorem sum_app : ∀ (a b : List Int), (a ++ b).sum = a.sum + b.sum
  | [], b => by simp
  | x :: a, b => by simp only [List.cons_append, List.sum_cons, sum_app a b]; omega
theorem sum_up (l : List Int) {i : Nat} (hi : i < l.length) : (l.take (i + 1)).sum = (l.take i).sum + l[i] := by
  rw [List.take_succ_eq_append_getElem hi, sum_app]; simp
theorem sum_bound {l : List Int} (h : ∀ x ∈ l, 0 ≤ x ∧ x ≤ 1000000000) : ∀ i, 0 ≤ (l.take i).sum ∧ (l.take i).sum ≤ 1000000000 * i
  | 0 => by simp
  | i + 1 => by
    have ih := sum_bound h i
    by_cases hi : i < l.length
    · have := h _ (List.getElem_mem hi)
      rw [sum_up l hi]
      omega
    · rw [List.take_of_length_le (by omega)] at ih ⊢
      omega
/-- What a trade is like. -/
structure TrOk (o : Od) (t : Tr) : Prop where
  q : 1 ≤ t.q ∧ t.q ≤ 1000000000
  i : t.i = o.inst
  ne : t.b ≠ t.s
  buy : o.side = 1 → t.b = o.acc ∧ t.p ≤ o.p
  sell : o.side = 2 → t.s = o.acc ∧ o.p ≤ t.p
/-- What a match keeps. -/
structure Kept (a : List Od) (o : Od) (B : List Od) (ts : List Tr) (left : Int) : Prop where
  ra : rightL a = true
  m : matchB a o = (B, ts, left, 0)
  left0 : 0 ≤ left
  rb : rightL B = true
  each : ∀ t ∈ ts, TrOk o t
  len : ts.length ≤ 32
  up : ∀ i (hi : i + 1 < ts.length), (o.side = 1 → ts[i].p ≤ ts[i + 1].p) ∧ (o.side = 2 → ts[i + 1].p ≤ ts[i].p)
  sum : (ts.map Tr.q).sum + left = o.q
  was : sumq a - sumq B = (ts.map Tr.q).sum
  from_ : ∀ y ∈ B, ∃ x ∈ a, x.id = y.id ∧ y.q ≤ x.q ∧ x.p = y.p ∧ x.acc = y.acc ∧ x.side = y.side
theorem trO_q {o x : Od} {q : Int} : (trO o x q).q = q ∧ (trO o x q).p = x.p ∧ (trO o x q).i = o.inst := by unfold trO; split <;> simp
theorem kept {a : List Od} {o : Od} (ha : rightL a = true) (ho : rightO o = true) : ∃ B ts left, Kept a o B ts left := by
  obtain ⟨T, left, m⟩ := matched ha ho
  have hos := (right_q ho).2.2
  have hra := (rightL_mem ha).1
  have hqs : (T.map fun e => trO o e.1 e.2).map Tr.q = T.map (·.2) := by
    rw [List.map_map]
    exact List.map_congr_left fun e _ => trO_q.1
  have hlen : T.length ≤ 32 := by
    have h1 := m.sub.length_le
    rw [List.length_map] at h1
    have h2 := (matchB_len (l := a) (o := o)).2
    rw [m.m] at h2
    simp at h2
    have := (rightL_mem ha).2
    omega
  refine ⟨_, _, left, ⟨ha, m.m, m.left0, m.rgt, fun t ht => ?_, by simpa using hlen, fun i hi => ?_, by rw [hqs]; exact m.sum, ?_, fun y hy => ?_⟩⟩
  · obtain ⟨e, he, rfl⟩ := List.mem_map.1 ht
    have h1 := m.each e he
    have h2 := m.mem e he
    have h3 := right_q (hra _ h2.1)
    refine ⟨by rw [trO_q.1]; omega, trO_q.2.2, ?_, fun hs => ?_, fun hs => ?_⟩
    · unfold trO
      split
      · exact h1.2.2.2
      · exact fun h => h1.2.2.2 h.symm
    · have h4 := h1.2.2.1
      unfold reachB at h4
      unfold trO
      simp [hs] at h4 ⊢
      exact h4
    · have h4 := h1.2.2.1
      unfold reachB at h4
      unfold trO
      simp [hs] at h4 ⊢
      exact h4
  · simp only [List.length_map] at hi
    have hp : (T.map (·.1)).Pairwise Rs := (walkB_rs ha).sublist m.sub
    have h1 := List.pairwise_iff_getElem.1 hp i (i + 1) (by simp; omega) (by simp; omega) (by omega)
    simp only [List.getElem_map, trO_q.2.1] at h1 ⊢
    have h2 := (m.mem _ (List.getElem_mem (by omega : i < T.length))).2.2
    unfold Rs betterB at h1
    rw [h2] at h1
    refine ⟨fun hs => ?_, fun hs => ?_⟩
    · simp [hs] at h1; omega
    · simp [hs] at h1; omega
  · rw [sumq_filter, sumq_decs (right_up ha) fun e he => List.mem_map_of_mem (m.mem e he).1, hqs]
    omega
  · obtain ⟨h1, -⟩ := List.mem_filter.1 hy
    obtain ⟨r, hr, rfl⟩ := List.mem_map.1 h1
    have h2 := decs_same T r
    have h3 := m.dec r hr
    exact ⟨r, hr, h2.1.symm, h3.2, h2.2.2.2.2.symm, h2.2.1.symm, h2.2.2.2.1.symm⟩
/-! none crosses -/
def NC (l : List Od) : Prop := ∀ x ∈ l, ∀ y ∈ l, crossB x y = false
theorem NC.crossed {l : List Od} (h : NC l) : crossedB l = false := by
  have hn : ∀ n, n ≤ l.length → crossN l n = false := by
    intro n
    induction n with
    | zero => intro _; rfl
    | succ n ih =>
      intro hn
      rw [crossN, ih (by omega), crossAt, getd (by omega : n < l.length)]
      simp only [Bool.false_or, List.any_eq_false]
      intro x hx
      rw [h _ (List.getElem_mem _) x (List.mem_of_mem_take hx)]
      simp
  rw [crossedB, hn _ (Nat.le_refl _)]
  simp
theorem cross_comm {a b : Od} : crossB a b = crossB b a := by
  unfold crossB
  cases h1 : rightO a with
  | false => simp
  | true =>
    cases h2 : rightO b with
    | false => simp
    | true =>
      have s1 := (right_q h1).2.2
      have s2 := (right_q h2).2.2
      simp only [Bool.true_and]
      by_cases hi : a.inst = b.inst
      · by_cases hs : a.side = b.side
        · simp [hs]
        · by_cases hc : a.acc = b.acc
          · simp [hc]
          · simp only [hi, hs, hc, Ne.symm hs, Ne.symm hc, decide_true, decide_false, Bool.not_false, Bool.true_and]
            unfold reachB
            rcases s1 with s1 | s1 <;> rcases s2 with s2 | s2
            · omega
            · simp [s1, s2]
            · simp [s1, s2]
            · omega
      · simp [hi, Ne.symm hi]
theorem cross_q {a b : Od} {q r : Int} (ha : rightO a = true) (hb : rightO b = true) (h : crossB a b = false) : crossB { a with q := q } { b with q := r } = false := by
  unfold crossB at h ⊢
  simp only [ha, hb, Bool.true_and] at h
  have : reachB { a with q := q } b.p = reachB a b.p := rfl
  simp only [this]
  cases rightO { a with q := q } with
  | false => rfl
  | true =>
    cases rightO { b with q := r } with
    | false => rfl
    | true => simpa using h
/-- Where something is left nothing that rests crosses it. -/
theorem stops {l : List Od} {o : Od} {B : List Od} {ts : List Tr} {left : Int} (hl : rightL l = true) (ho : rightO o = true) (hm : matchB l o = (B, ts, left, 0)) :
    rightL B = true ∧ (NC l → NC B) ∧ 0 ≤ left ∧ left ≤ o.q ∧ (∀ x ∈ B, ∃ y ∈ l, y.id = x.id) ∧ (0 < left → ∀ y ∈ B, crossB y { o with q := left } = false) := by
  obtain ⟨T, left', m⟩ := matched hl ho
  have e := m.m
  rw [hm] at e
  injection e with e1 e2
  injection e2 with e2 e3
  injection e3 with e3 e4
  subst e1 e3
  have hra := (rightL_mem hl).1
  have hsum : 0 ≤ (T.map (·.2)).sum := by
    have hh := m.each
    clear hm m e2
    induction T with
    | nil => simp
    | cons e T ih =>
      have h1 := ih fun e he => hh e (by simp [he])
      have h2 := hh e (by simp)
      simp; omega
  refine ⟨m.rgt, fun hn x hx y hy => ?_, m.left0, by have := m.sum; omega, fun x hx => ?_, fun hp y hy => ?_⟩
  · obtain ⟨h1, -⟩ := List.mem_filter.1 hx
    obtain ⟨r, hr, rfl⟩ := List.mem_map.1 h1
    obtain ⟨h2, -⟩ := List.mem_filter.1 hy
    obtain ⟨s, hs, rfl⟩ := List.mem_map.1 h2
    rw [decs_sum, decs_sum]
    exact cross_q (hra r hr) (hra s hs) (hn r hr s hs)
  · obtain ⟨h1, -⟩ := List.mem_filter.1 hx
    obtain ⟨r, hr, rfl⟩ := List.mem_map.1 h1
    exact ⟨r, hr, (decs_same T r).1.symm⟩
  · rw [cross_comm]
    unfold crossB
    have hr : reachB { o with q := left } y.p = reachB o y.p := rfl
    simp only [hr]
    by_cases h1 : o.inst = y.inst
    · by_cases h2 : o.side = y.side
      · simp [h2]
      · have hos := (right_q ho).2.2
        have hys := (right_q ((rightL_mem m.rgt).1 y hy)).2.2
        have hyw : y ∈ aft o (walkB l o.inst (3 - o.side)) o.q := by
          rw [← m.aft, mem_walkB m.rgt]
          exact ⟨hy, h1.symm, by omega⟩
        have hst := aft_stop (o := o) hos rfl (walkB l o.inst (3 - o.side)) o.q (fun x hx => ((mem_walkB hl).1 hx).2.2) (walkB_rs hl) (by rw [m.r]; exact hp) y hyw
        rcases hst with h3 | h3
        · simp [h3]
        · simp [h3]
    · simp [h1]
theorem NC.snoc {l : List Od} {o : Od} (h : NC l) (ho : ∀ y ∈ l, crossB y o = false) : NC (l ++ [o]) := by
  intro x hx y hy
  rcases List.mem_append.1 hx with h1 | h1 <;> rcases List.mem_append.1 hy with h2 | h2
  · exact h x h1 y h2
  · simp at h2; subst h2; exact ho x h1
  · simp at h1; subst h1; rw [cross_comm]; exact ho y h2
  · simp at h1 h2
    subst h1 h2
    unfold crossB
    simp
/-- Orders that rest, each matched as it came, are right and don't cross. -/
theorem rest_nc {os : List Od} {id : Int} (h : Drawn os id) (hbig : os.length ≤ 1000000) : ∀ n, n ≤ os.length → rightL (restN os n) = true ∧ NC (restN os n) ∧ ∀ x ∈ restN os n, ∃ m, ∃ hm : m < os.length, m < n ∧ x.id = os[m].id
  | 0, _ => ⟨rfl, by intro x hx; simp [restN] at hx, by simp [restN]⟩
  | n + 1, hn => by
    obtain ⟨i1, i2, i3⟩ := rest_nc h hbig n (by omega)
    have hnl : n < os.length := by omega
    rw [restN, getd hnl]
    obtain ⟨o, eo⟩ : ∃ o, o = os[n] := ⟨_, rfl⟩
    rw [← eo]
    have h1 := h.ok o (by rw [eo]; exact List.getElem_mem hnl)
    have h2 := h.top
    have ho : rightO o = true := by
      unfold rightO
      simp only [Bool.and_eq_true, Bool.or_eq_true, decide_eq_true_eq]
      omega
    obtain ⟨T, left, m⟩ := matched i1 ho
    obtain ⟨B, eB⟩ : ∃ B, B = ((restN os n).map (decs T)).filter (fun x => !decide (x.q = 0)) := ⟨_, rfl⟩
    have hm := m.m
    rw [← eB] at hm
    obtain ⟨s1, s2, s3, s4, s5, s6⟩ := stops i1 ho hm
    have hB : ∀ x ∈ B, ∃ m, ∃ hm : m < os.length, m < n ∧ x.id = os[m].id := fun x hx => by
      obtain ⟨y, hy, e⟩ := s5 x hx
      obtain ⟨m, hm, h1, h2⟩ := i3 y hy
      exact ⟨m, hm, h1, by omega⟩
    unfold stepR
    rw [hm]
    simp only
    split
    · rename_i hc
      have hor := right_dec ho (by omega : 1 ≤ left) s4
      refine ⟨rightL_of (fun x hx => ?_) (List.pairwise_append.2 ⟨right_up s1, by simp, fun a ha b hb => ?_⟩) (by simp; omega), NC.snoc (s2 i2) (s6 hc.1), fun x hx => ?_⟩
      · rcases List.mem_append.1 hx with hx | hx
        · exact (rightL_mem s1).1 x hx
        · simp at hx; subst hx; exact hor
      · simp at hb; subst hb
        obtain ⟨m, hm, g1, g2⟩ := hB a ha
        rw [g2, eo]
        exact List.pairwise_iff_getElem.1 h.up m n hm hnl g1
      · rcases List.mem_append.1 hx with hx | hx
        · obtain ⟨m, hm, g1, g2⟩ := hB x hx
          exact ⟨m, hm, by omega, g2⟩
        · simp at hx; subst hx
          exact ⟨n, hnl, by omega, by rw [eo]⟩
    · exact ⟨s1, s2 i2, fun x hx => by obtain ⟨m, hm, g1, g2⟩ := hB x hx; exact ⟨m, hm, by omega, g2⟩⟩
end Go.Proofs.Ytjpmddjibeecbaa.T.Qu
end
