import Derived.Test.YtpinfljbccjbkaaGL104
section
/-! QueueOpens. -/
set_option linter.unusedVariables false
set_option linter.unusedSimpArgs false
set_option maxHeartbeats 4000000
set_option maxRecDepth 100000
namespace Go.Proofs.Ytpinfljbccjbkaa.T.Qu
open Go Go.Ab
def tq (l : List Od) (acc inst : Int) (n : Nat) : Int := (sums l acc inst n).1 + (sums l acc inst n).2
theorem tq_succ {l : List Od} {acc inst : Int} {n : Nat} : tq l acc inst (n + 1) = tq l acc inst n + (if (l.getD n dO).acc = acc ∧ (l.getD n dO).inst = inst then (l.getD n dO).q else 0) := by
  unfold tq
  rw [sums]
  by_cases h : (l.getD n dO).acc = acc ∧ (l.getD n dO).inst = inst
  · rw [if_pos h, if_pos h]
    by_cases h2 : (l.getD n dO).side = 1
    · rw [if_pos h2]; simp only; omega
    · rw [if_neg h2]; simp only; omega
  · rw [if_neg h, if_neg h]; omega
/-- An account's, of all instruments. -/
def a6 (l : List Od) (acc : Int) (n : Nat) : Int := tq l acc 0 n + tq l acc 1 n + tq l acc 2 n + tq l acc 3 n + tq l acc 4 n + tq l acc 5 n
theorem a6_succ {l : List Od} {acc : Int} {n : Nat} (h : 0 ≤ (l.getD n dO).inst ∧ (l.getD n dO).inst < 6) : a6 l acc (n + 1) = a6 l acc n + (if (l.getD n dO).acc = acc then (l.getD n dO).q else 0) := by
  unfold a6
  simp only [tq_succ]
  generalize (l.getD n dO).inst = i at *
  generalize (l.getD n dO).acc = a at *
  generalize (l.getD n dO).q = q at *
  by_cases ha : a = acc
  · have : i = 0 ∨ i = 1 ∨ i = 2 ∨ i = 3 ∨ i = 4 ∨ i = 5 := by omega
    rcases this with rfl | rfl | rfl | rfl | rfl | rfl <;> simp [ha] <;> omega
  · simp [ha]
def a30 (l : List Od) (n : Nat) : Int := a6 l 1 n + a6 l 2 n + a6 l 3 n + a6 l 4 n + a6 l 5 n
theorem a30_all {l : List Od} (h : ∀ x ∈ l, 1 ≤ x.acc ∧ x.acc ≤ 5 ∧ 0 ≤ x.inst ∧ x.inst < 6) : ∀ n, n ≤ l.length → a30 l n = ((l.map Od.q).take n).sum
  | 0, _ => by simp [a30, a6, tq, sums]
  | n + 1, hn => by
    have ih := a30_all h n (by omega)
    have hx := h _ (List.getElem_mem (by omega : n < l.length))
    have hg : l.getD n dO = l[n] := getd (by omega)
    rw [sum_up _ (by simp; omega), ← ih]
    unfold a30
    rw [a6_succ (by rw [hg]; omega), a6_succ (by rw [hg]; omega), a6_succ (by rw [hg]; omega), a6_succ (by rw [hg]; omega), a6_succ (by rw [hg]; omega), hg, List.getElem_map]
    generalize l[n] = x at *
    have : x.acc = 1 ∨ x.acc = 2 ∨ x.acc = 3 ∨ x.acc = 4 ∨ x.acc = 5 := by omega
    rcases this with e | e | e | e | e <;> simp [e] <;> omega
def sumO (l : List Opn) : Int := (l.map fun o => o.b + o.s).sum
theorem sumO_opens {l : List Od} {acc : Int} (h : ∀ x ∈ l, rightO x = true) : sumO (opensN l acc 6) = a6 l acc l.length := by
  have hs : ∀ k : Nat, sumO (opensN l acc (k + 1)) = sumO (opensN l acc k) + tq l acc k l.length := fun k => by
    have hb := sums_bound (acc := acc) (inst := k) h l.length (Nat.le_refl _)
    rw [opensN]
    unfold tq
    split
    · unfold sumO
      rw [List.map_append, sum_app]
      simp
    · omega
  rw [hs 5, hs 4, hs 3, hs 2, hs 1, hs 0]
  simp [opensN, sumO, a6]
theorem opensN_mem {l : List Od} {acc : Int} (h : ∀ x ∈ l, rightO x = true) (h32 : l.length ≤ 32) : ∀ n, ∀ o ∈ opensN l acc n, 0 ≤ o.b ∧ 0 ≤ o.s ∧ 0 < o.b + o.s ∧ o.b + o.s ≤ 100000000000 ∧ 0 ≤ o.i ∧ o.i < n
  | 0, o, ho => by simp [opensN] at ho
  | n + 1, o, ho => by
    have hb := sums_bound (acc := acc) (inst := n) h l.length (Nat.le_refl _)
    rw [opensN] at ho
    split at ho
    · rcases List.mem_append.1 ho with ho | ho
      · have := opensN_mem h h32 n o ho; omega
      · simp at ho
        subst ho
        simp only
        omega
    · have := opensN_mem h h32 n o ho; omega
theorem opensN_up {l : List Od} {acc : Int} (h : ∀ x ∈ l, rightO x = true) (h32 : l.length ≤ 32) : ∀ n, (opensN l acc n).Pairwise fun a b => a.i < b.i
  | 0 => by simp [opensN]
  | n + 1 => by
    rw [opensN]
    split
    · refine List.pairwise_append.2 ⟨opensN_up h h32 n, by simp, fun a ha b hb => ?_⟩
      simp at hb; subst hb
      have := opensN_mem h h32 n a ha
      simp only; omega
    · exact opensN_up h h32 n
theorem opensN_none {l : List Od} {acc : Int} (h : ∀ x ∈ l, x.acc ≠ acc) : ∀ n, opensN l acc n = []
  | 0 => rfl
  | n + 1 => by
    have hz : ∀ (i : Int) m, m ≤ l.length → sums l acc i m = (0, 0) := by
      intro i m
      induction m with
      | zero => intro _; rfl
      | succ m ih =>
        intro hm
        have := h _ (List.getElem_mem (by omega : m < l.length))
        rw [sums, getd (by omega : m < l.length), if_neg (fun h => this h.1), ih (by omega)]
    rw [opensN, hz _ _ (Nat.le_refl _), opensN_none h n]
    simp
theorem sumO_bound {l : List Opn} (h : ∀ o ∈ l, 0 ≤ o.b ∧ 0 ≤ o.s ∧ o.b + o.s ≤ 100000000000) : ∀ i, 0 ≤ sumO (l.take i) ∧ sumO (l.take i) ≤ 100000000000 * i
  | 0 => by simp [sumO]
  | i + 1 => by
    have ih := sumO_bound h i
    by_cases hi : i < l.length
    · have := h _ (List.getElem_mem hi)
      rw [List.take_succ_eq_append_getElem hi]
      unfold sumO at ih ⊢
      rw [List.map_append, sum_app]
      simp only [List.map_cons, List.map_nil, List.sum_cons, List.sum_nil]
      omega
    · rw [List.take_of_length_le (by omega)] at ih ⊢
      omega
section
variable {k p n : Nat} {H : AH}
theorem queueOpens_ok {v : AV} {L : List Int} (h : SL H 1 v (u64s L)) (hL : ∀ x ∈ L, U64 x) (hk : 1000 < k) : Hx (callA ap k (.func 6 [] []) [v] 0 H) fun r => r.1 = .bool true := by
  obtain ⟨k, rfl⟩ : ∃ k', k = k' + 9 := ⟨k - 9, by omega⟩
  rw [hx_go fn6 rfl, b6]
  obtain ⟨va1, vc, vs, rfl⟩ := h.form1
  simp
  refine Hx.mapp (known_ok (k := k + 8) (by omega)) ?_
  rintro ⟨r, H0⟩ ⟨e, c0⟩
  simp only at e c0
  subst e
  simp
  have h' := h.keep c0
  rw [u64s_len] at h'
  refine Hx.mapp (of_ok (k := k + 7) h' hL) ?_
  rintro ⟨r, H1⟩ ⟨e, d1, c1⟩
  simp only at e d1 c1
  subst e
  obtain ⟨p, hp⟩ : ∃ p, p = H0.length := ⟨_, rfl⟩
  rw [← hp] at d1 ⊢
  simp
  refine Hx.mapp (norders_ok (k := k + 8) (most := 32) d1 (by omega) (by omega) (by omega)) ?_
  rintro ⟨v0, H2⟩ ⟨os, id', hv, hdr, hlen, d2, c2, hb⟩
  simp only at hv d2 c2 hb
  obtain ⟨a0, c0', s0, e0⟩ := SO.form hv.sl
  subst e0
  have hrt := hdr.right hlen
  have hro := (rightL_mem hrt).1
  have hos := hv.sl
  have hall := a30_all (fun x hx => by have := hdr.ok x hx; omega) os.length (Nat.le_refl _)
  have hqa : ∀ x ∈ os.map Od.q, 0 ≤ x ∧ x ≤ 1000000000 := fun x hx => by
    obtain ⟨t, ht, rfl⟩ := List.mem_map.1 hx
    have := right_q (hro t ht); omega
  have hsa := sum_bound hqa
  simp
  refine hx_up (fun i st => ∃ H', st = ⟨sp 109 [(3, .slice a0 os.length c0' s0), (4, .int .i64 ((os.map Od.q).take i).sum), (5, .int .i64 i)], H', []⟩ ∧ Chg [] H2 H') os.length ?_ ?_ (by omega) ⟨H2, by simp [maskS], .refl⟩
  · rintro i st hi ⟨H10, rfl, c10⟩
    have hi' : (i : Int) < os.length := by omega
    have wi : IntKind.i64.wrap ((i : Int) + 1) = (i : Int) + 1 := wrap_i64 (by omega) (by omega)
    obtain ⟨b, ob, c', r, e, g0, gg⟩ := SO.all (hos.keep c10) (by intro h; simp [h] at hi)
    obtain ⟨z1, z2, z3, z4⟩ := AV.slice.inj e
    subst z1 z3 z4
    obtain ⟨g1, g2, g3⟩ := gg i hi
    obtain ⟨t, et⟩ : ∃ t, t = os[i] := ⟨_, rfl⟩
    rw [← et] at g2 g3
    have f4 := g3 4 (by omega)
    simp only [Od.cs, Nat.add_zero, List.getElem?_cons_zero, List.getElem?_cons_succ] at f4
    have hs1 := hsa i
    have hs2 := hsa (i + 1)
    have hsu : ((os.map Od.q).take (i + 1)).sum = ((os.map Od.q).take i).sum + t.q := by rw [sum_up _ (by simpa using hi)]; simp [et]
    have ws : IntKind.i64.wrap (((os.map Od.q).take i).sum + t.q) = ((os.map Od.q).take (i + 1)).sum := by rw [hsu] at hs2 ⊢; exact wrap_i64 (by omega) (by omega)
    simp [hi', hi, g0, f4, ws, maskS, wi]
    exact c10
  · rintro st ⟨H10, rfl, c10⟩
    have hT := hsa os.length
    obtain ⟨T, eT⟩ : ∃ T, T = ((os.map Od.q).take os.length).sum := ⟨_, rfl⟩
    rw [← eT] at hall hT ⊢
    -- what was taken off once j accounts are through
    obtain ⟨off, hoff⟩ : ∃ off : Nat → Int, off = fun j => (if 1 ≤ j then a6 os 1 os.length else 0) + (if 2 ≤ j then a6 os 2 os.length else 0) + (if 3 ≤ j then a6 os 3 os.length else 0) + (if 4 ≤ j then a6 os 4 os.length else 0) + (if 5 ≤ j then a6 os 5 os.length else 0) := ⟨_, rfl⟩
    have hstep : ∀ j : Nat, j < 5 → off (j + 1) = off j + a6 os ((j + 1 : Nat) : Int) os.length := fun j hj => by
      have : j = 0 ∨ j = 1 ∨ j = 2 ∨ j = 3 ∨ j = 4 := by omega
      rw [hoff]
      rcases this with rfl | rfl | rfl | rfl | rfl <;> simp
    have hb6 : ∀ acc, 0 ≤ a6 os acc os.length ∧ a6 os acc os.length ≤ 600000000000 := fun acc => by
      rw [← sumO_opens hro]
      have := sumO_bound (l := opensN os acc 6) (fun o ho => by have := opensN_mem hro hlen 6 o ho; omega) 6
      rw [List.take_of_length_le (opensN_len 6)] at this
      omega
    have hob : ∀ j : Nat, j ≤ 5 → 0 ≤ off j ∧ off j ≤ 3000000000000 := fun j hj => by
      have q1 := hb6 1
      have q2 := hb6 2
      have q3 := hb6 3
      have q4 := hb6 4
      have q5 := hb6 5
      rw [hoff]
      simp only
      refine ⟨?_, ?_⟩ <;> (repeat' split) <;> omega
    have h0 : off 0 = 0 := by rw [hoff]; simp
    have h5 : off 5 = T := by rw [hoff, ← hall]; simp [a30]
    clear hoff
    simp
    refine hx_up (fun j st => ∃ H', st = ⟨sp 109 [(3, .slice a0 os.length c0' s0), (4, .int .i64 (T - off j)), (6, .int .i64 ((j : Int) + 1))], H', []⟩ ∧ Chg [] H2 H') 5 ?_ ?_ (by omega) ⟨H10, by simp [maskS, h0], c10⟩
    · rintro j st hj ⟨H11, rfl, c11⟩
      have hj5 : (j : Int) + 1 ≤ 5 := by omega
      have wj : IntKind.i64.wrap ((j : Int) + 1 + 1) = (j : Int) + 1 + 1 := wrap_i64 (by omega) (by omega)
      simp [hj5]
      refine Hx.mapp (opens_ok (k := k + 8) (acc := (j : Int) + 1) (hos.keep c11) (by omega) (by omega)) ?_
      rintro ⟨r, H12⟩ ⟨u, c12, _⟩
      simp only at u c12
      have hB : opensB os ((j : Int) + 1) = opensN os ((j : Int) + 1) 6 := by rw [opensB, hrt]; rfl
      rw [hB] at u
      have hmem := opensN_mem (acc := (j : Int) + 1) hro hlen 6
      have hup := opensN_up (acc := (j : Int) + 1) hro hlen 6
      have hl6 := opensN_len (l := os) (acc := (j : Int) + 1) 6
      have hsum := sumO_opens (acc := (j : Int) + 1) hro
      have hst := hstep j hj
      rw [show ((j + 1 : Nat) : Int) = (j : Int) + 1 by omega] at hst
      have hbj := hob j (by omega)
      have hso := sumO_bound (l := opensN os ((j : Int) + 1) 6) (fun o ho => by have := hmem o ho; omega)
      generalize opensN os ((j : Int) + 1) 6 = F at *
      obtain ⟨x5, y5, z5, rfl⟩ := SP.form u
      simp
      refine hx_up (fun i st => ∃ H', st = ⟨sp 109 [(3, .slice a0 os.length c0' s0), (4, .int .i64 (T - off j - sumO (F.take i))), (6, .int .i64 ((j : Int) + 1)), (7, .slice x5 F.length y5 z5), (8, .int .i64 i)], H', []⟩ ∧ Chg [] H12 H') F.length ?_ ?_ (by omega) ⟨H12, by simp [maskS, sumO], .refl⟩
      · rintro i st hi ⟨H13, rfl, c13⟩
        have hi' : (i : Int) < F.length := by omega
        have wi : IntKind.i64.wrap ((i : Int) + 1) = (i : Int) + 1 := wrap_i64 (by omega) (by omega)
        simp [hi', hi]
        refine hx_drawn dc6_16 fun X cX _ _ => ?_
        have c14 := c13.tr cX
        obtain ⟨b, ob, c', r, e, g0, gg⟩ := SP.all (u.keep c14) (by intro h; simp [h] at hi)
        obtain ⟨z1, z2, z3, z4⟩ := AV.slice.inj e
        subst z1 z3 z4
        obtain ⟨o, eo⟩ : ∃ o, o = F[i] := ⟨_, rfl⟩
        have gf := (gg i hi).2.2
        rw [← eo] at gf
        have f0 := gf 0 (by omega)
        have f1 := gf 1 (by omega)
        have f2 := gf 2 (by omega)
        simp only [Opn.cs, Nat.add_zero, List.getElem?_cons_zero, List.getElem?_cons_succ] at f0 f1 f2
        have hmo := hmem o (by rw [eo]; exact List.getElem_mem hi)
        have hs1 := hso i
        have hs2 := hso (i + 1)
        have hsu : sumO (F.take (i + 1)) = sumO (F.take i) + (o.b + o.s) := by
          rw [List.take_succ_eq_append_getElem hi, ← eo]
          unfold sumO
          rw [List.map_append, sum_app]
          simp
        have v1 : IntKind.i64.wrap (o.b + o.s) = o.b + o.s := wrap_i64 (by omega) (by omega)
        have v2 : IntKind.i64.wrap (T - off j - sumO (F.take i) - (o.b + o.s)) = T - off j - sumO (F.take (i + 1)) := by rw [wrap_i64 (by omega) (by omega)]; omega
        have n1 : ¬ o.b < 0 := by omega
        have n2 : ¬ o.s < 0 := by omega
        rcases (show i = 0 ∨ ∃ m, i = m + 1 by cases i with | zero => exact .inl rfl | succ m => exact .inr ⟨m, rfl⟩) with h00 | ⟨m, hm⟩
        · have hi0 : ¬ 0 < i := by omega
          by_cases hz : o.b = 0
          · have hz2 : ¬ o.s = 0 := by omega
            simp [d6_16, hi', hi, g0, f1, f2, hz, n2, hz2, hi0]
            refine hx_drawn dc6_18 fun Y cY _ _ => ?_
            have gY := cY.row g0 (by simp)
            simp [d6_18, hi', hi, gY, f1, f2, v1, v2, maskS, wi]
            exact c14.tr cY
          · simp [d6_16, hi', hi, g0, f1, f2, n1, n2, hz, hi0]
            refine hx_drawn dc6_18 fun Y cY _ _ => ?_
            have gY := cY.row g0 (by simp)
            simp [d6_18, hi', hi, gY, f1, f2, v1, v2, maskS, wi]
            exact c14.tr cY
        · have hml : m < F.length := by omega
          have hml' : (m : Int) < F.length := by omega
          obtain ⟨o2, eo2⟩ : ∃ o2, o2 = F[m] := ⟨_, rfl⟩
          have e0 := (gg m hml).2.2 0 (by omega)
          rw [← eo2] at e0
          simp only [Opn.cs, Nat.add_zero, List.getElem?_cons_zero] at e0
          have hle : ¬ o.i ≤ o2.i := by
            have := List.pairwise_iff_getElem.1 hup m i hml hi (by omega)
            rw [eo, eo2]; omega
          have hi0 : 0 < i := by omega
          have wm : IntKind.i64.wrap ((i : Int) - 1) = (m : Int) := by rw [wrap_i64 (by omega) (by omega)]; omega
          by_cases hz : o.b = 0
          · have hz2 : ¬ o.s = 0 := by omega
            simp [d6_16, hi', hi, g0, f0, f1, f2, hz, n2, hz2, hi0, wm, hml, hml', e0, hle]
            refine hx_drawn dc6_18 fun Y cY _ _ => ?_
            have gY := cY.row g0 (by simp)
            simp [d6_18, hi', hi, gY, f1, f2, v1, v2, maskS, wi]
            exact c14.tr cY
          · simp [d6_16, hi', hi, g0, f0, f1, f2, n1, n2, hz, hi0, wm, hml, hml', e0, hle]
            refine hx_drawn dc6_18 fun Y cY _ _ => ?_
            have gY := cY.row g0 (by simp)
            simp [d6_18, hi', hi, gY, f1, f2, v1, v2, maskS, wi]
            exact c14.tr cY
      · rintro st ⟨H13, rfl, c13⟩
        rw [List.take_length, hsum]
        simp [maskS, wj]
        exact ⟨H13, ⟨by omega, rfl⟩, c11.tr (c12.tr c13)⟩
    · rintro st ⟨H11, rfl, c11⟩
      have hB : opensB os 9 = [] := by
        rw [opensB, hrt]
        exact opensN_none (fun x hx => by have := hdr.ok x hx; omega) 6
      have hop := opens_ok (k := k + 8) (acc := 9) (hos.keep c11) (by omega) (by omega)
      rw [hB] at hop
      rw [h5]
      simp
      refine Hx.mapp hop ?_
      rintro ⟨r, H12⟩ ⟨u, c12, _⟩
      simp only at u c12
      obtain ⟨x5, y5, z5, ev⟩ := SP.form u
      simp only [List.length_nil] at ev
      subst ev
      simp
theorem queueOpens_main (H : AH) (ass : List (List AV)) (hl : ass.length = [22].length) (ha : ∀ (i : Nat) t al, [22][i]? = some t → ass[i]? = some al → AR ap 6 H t al) :
    Hx (callA ap 2000 (.func 6 [] []) (List.zipWith (argA ap) [22] ass) 0 H) fun r => r.1 = .bool true := by
  match ass, hl with
  | [a0], _ =>
    obtain ⟨v, L, rfl, h0, hL⟩ := ar_u64s (ha 0 22 a0 rfl rfl) ty22 rfl ty58 rfl rfl
    simp only [List.zipWith_cons_cons, List.zipWith_nil_right, argA_one ty22 rfl]
    exact queueOpens_ok h0 hL (by omega)
end
end Go.Proofs.Ytpinfljbccjbkaa.T.Qu
end
