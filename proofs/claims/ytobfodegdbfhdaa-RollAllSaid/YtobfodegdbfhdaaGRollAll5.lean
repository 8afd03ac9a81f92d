import Derived.Test.YtobfodegdbfhdaaGR124
section
/-! Limit, Port of the document. -/
set_option linter.unusedVariables false
set_option linter.unusedSimpArgs false
set_option maxHeartbeats 40000000
set_option maxRecDepth 100000
namespace Go.Proofs.Ytobfodegdbfhdaa.T.Ro
open Go Go.Ab
section
variable {k : Nat} {H : AH}
theorem rlimit_ok {v : AV} {l : List Ac} {id q : Int} (h : SA H v l) (hl : l.length ≤ 1000000) (hk : l.length + 40 < k) : Hx (callA ap k (.func 22 [] []) [v, .int .i64 id, .int .i64 q] 0 H) fun r => ∃ vr, r.1 = .tuple [vr, .int .i64 (limitB l id q).2] ∧ SA r.2 vr (limitB l id q).1 ∧ Chg [] H r.2 := by
  obtain ⟨k, rfl⟩ : ∃ k', k = k' + 3 := ⟨k - 3, by omega⟩
  rw [hx_go fn22 rfl, b22]
  have h1 := raccs_ok (k := k + 2) h hl (by omega)
  have h2 := rfd_ok (k := k + 2) (id := id) h hl (by omega)
  have h5 := h
  obtain ⟨a, c, s, rfl⟩ := h.form
  cases haa : accsB l with
  | false =>
    have hA : limitB l id q = ([], 1) := by rw [limitB, haa]; rfl
    rw [hA]
    rw [haa] at h1
    simp [h1]
    exact ⟨.nil _ _, .refl⟩
  | true =>
  rw [haa] at h1
  by_cases q1 : q < 0
  · have hA : limitB l id q = ([], 1) := by rw [limitB, if_neg (by omega)]
    rw [hA]
    simp [h1, q1]
    exact ⟨.nil _ _, .refl⟩
  by_cases q2 : 1000000000000 < q
  · have hA : limitB l id q = ([], 1) := by rw [limitB, if_neg (by omega)]
    rw [hA]
    simp [h1, q1, q2]
    exact ⟨.nil _ _, .refl⟩
  cases hx : findL l id with
  | none =>
    have hA : limitB l id q = ([], 3) := by rw [limitB, if_pos ⟨haa, by omega, by omega⟩, hx]
    rw [hA]
    rw [hx] at h2
    simp only [fA, Option.getD_none, dA, Ac.cs, Option.isSome_none] at h2
    simp [h1, q1, q2, h2]
    exact ⟨.nil _ _, .app _ _⟩
  | some x =>
    have hA : limitB l id q = (l.map (limA id q), 0) := by rw [limitB, if_pos ⟨haa, by omega, by omega⟩, hx, lim_same haa hx]
    rw [hA]
    have hm0 : l ≠ [] := by
      intro e
      rw [e] at hx
      simp [findL] at hx
    rw [hx] at h2
    simp only [fA, Option.getD_some, Ac.cs, Option.isSome_some] at h2
    simp [h1, q1, q2, h2]
    obtain ⟨G, eG⟩ : ∃ G, G = H ++ [.cells x.cs .rw] := ⟨_, rfl⟩
    have cG : Chg [] H G := by rw [eG]; exact .app _ _
    have lG : G.length = H.length + 1 := by rw [eG]; simp
    simp only [Ac.cs] at eG
    have hap := appAc_ok (h5.keep cG) hl
    rw [eG] at hap
    simp only [List.append_assoc, List.cons_append, List.nil_append, List.length_append, List.length_cons, List.length_nil, Nat.zero_add] at hap
    refine Hx.mapp hap ?_
    rintro ⟨w, H1⟩ ⟨c1, t1, t2⟩
    simp only at c1 t1 t2
    obtain ⟨b, rfl, g1⟩ : ∃ b, w = .slice (some (b, 0)) l.length none 4 ∧ H1[b]? = some (.cells (acsC l) .rw) := by
      rcases t1 with (⟨c, s, rfl, e⟩ | h) | ⟨e, -⟩
      · exact (hm0 e).elim
      · exact h
      · exact (hm0 e).elim
    have hbG : H.length ≤ b := by have := t2 b (by simp); omega
    simp
    refine hx_up (fun i st => ∃ H', st = ⟨sp 53 [(1, .int .i64 id), (2, .int .i64 q), (10, .slice (some (b, 0)) l.length none 4), (11, .int .i64 i)], H', []⟩ ∧ Chg [b] H1 H' ∧ H'[b]? = some (.cells (acsC (stepL (limA id q) l i)) .rw)) l.length ?_ ?_ (by omega) ⟨H1, by simp [maskS], .refl, by rw [stepL_zero]; exact g1⟩
    · rintro i st hi ⟨H2, rfl, c2, g2⟩
      have hi' : (i : Int) < l.length := by omega
      have w : IntKind.i64.wrap ((i : Int) + 1) = (i : Int) + 1 := wrap_i64 (by omega) (by omega)
      obtain ⟨cur, ecur⟩ : ∃ cur, cur = stepL (limA id q) l i := ⟨_, rfl⟩
      have hcl : cur.length = l.length := by rw [ecur]; exact stepL_len (by omega)
      have hci : cur[i]? = some l[i] := by rw [ecur]; exact stepL_get hi
      have hcg : cur[i]'(by omega) = l[i] := by rw [List.getElem?_eq_getElem (by omega)] at hci; exact Option.some.inj hci
      have hso : SA H2 (.slice (some (b, 0)) l.length none 4) cur := SL.mk (by omega) (rowOf_rw (by rw [g2, ecur])) (by simp; omega) (by simp)
      obtain ⟨b', o', c', r, e, q0, qq⟩ := SA.all hso (by intro h; rw [h] at hcl; simp at hcl; omega)
      obtain ⟨z1, z2, z3, z4⟩ := AV.slice.inj e
      obtain ⟨rfl, rfl⟩ : b' = b ∧ o' = 0 := by simp at z1; omega
      obtain ⟨-, -, gf⟩ := qq i (by omega)
      rw [hcg] at gf
      obtain ⟨y, hy⟩ : ∃ y, y = l[i] := ⟨_, rfl⟩
      rw [← hy] at gf
      have f0 := gf 0 (by omega)
      simp only [Ac.cs, Nat.zero_add, Nat.add_zero, List.getElem?_cons_zero] at f0
      have hr : r = acsC cur := by rw [rowOf_rw (by rw [g2, ← ecur])] at q0; exact (Option.some.inj q0).symm
      rw [← ecur] at g2
      have qX := rowOf_rw g2
      have wX : rowRw H2 0 b' = some _ := rowRw_rw g2
      rw [hr] at f0
      by_cases hp : y.id = id
      · have hset := acs_setF (l := cur) (i := i) (j := 3) (v := .int .i64 q) (y := { y with lim := q }) (by omega) (by omega) (by rw [hcg, ← hy]; rfl)
        have hle : i * 4 + 3 + 1 ≤ 4 * cur.length := by omega
        rw [ecur, stepL_set (f := limA id q) (y := { y with lim := q }) hi (by rw [← hy, limA, if_pos hp]), ← ecur] at hset
        simp [hi', hi, qX, f0, hp, wX, hle, maskS, w]
        exact ⟨c2.tr' (.set _ _ _), by rw [List.getElem?_set_self (lt_of_get g2), hset]⟩
      · have hn := stepL_same (f := limA id q) hi (by rw [← hy, limA, if_neg hp])
        simp [hi', hi, qX, f0, hp, maskS, w]
        exact ⟨c2, by rw [hn, ← ecur]; exact g2⟩
    · rintro st ⟨H2, rfl, c2, g2⟩
      rw [stepL_all] at g2
      simp
      exact ⟨SL.mk (by omega) (rowOf_rw g2) (by simp; omega) (by simp), (cG.tr (by rw [eG]; simpa using c1)).trans c2 (fun i hi => .inr (by simp at hi; omega))⟩
theorem rport_ok {vm v : AV} {m : List Mb} {l : List Ac} {id to : Int} (hm : SM H vm m) (h : SA H v l) (hl : l.length ≤ 1000000) (hl2 : m.length ≤ 1000000) (hk : m.length + l.length + 60 < k) : Hx (callA ap k (.func 23 [] []) [vm, v, .int .i64 id, .int .i64 to] 0 H) fun r => ∃ vr, r.1 = .tuple [vr, .int .i64 (portB m l id to).2] ∧ SA r.2 vr (portB m l id to).1 ∧ Chg [] H r.2 := by
  obtain ⟨k, rfl⟩ : ∃ k', k = k' + 3 := ⟨k - 3, by omega⟩
  rw [hx_go fn23 rfl, b23]
  have h1 := rright_ok (k := k + 2) hm h hl2 hl (by omega)
  have h2 := rfd_ok (k := k + 2) (id := id) h hl (by omega)
  have h5 := h
  have h6 := hm
  obtain ⟨a, c, s, rfl⟩ := h.form
  obtain ⟨a', c', s', rfl⟩ := hm.form
  cases haa : rollB m l with
  | false =>
    have hA : portB m l id to = ([], 1) := by rw [portB, haa]; rfl
    rw [hA]
    rw [haa] at h1
    simp [h1]
    exact ⟨.nil _ _, .refl⟩
  | true =>
  rw [haa] at h1
  have hac : accsB l = true := by unfold rollB at haa; simp only [Bool.and_eq_true] at haa; exact haa.2.1
  obtain ⟨G, eG⟩ : ∃ G, G = H ++ [.cells (fA (findL l id)).cs .rw] := ⟨_, rfl⟩
  have cG : Chg [] H G := by rw [eG]; exact .app _ _
  have lG : G.length = H.length + 1 := by rw [eG]; simp
  have rG : rowOf G H.length = some (fA (findL l id)).cs := by rw [eG]; simp [Ac.cs]
  have h3 := rst_ok (k := k + 2) (id := to) (h6.keep cG) hl2 (by omega)
  simp only [Ac.cs] at h2 eG rG
  cases hx : findL l id with
  | none =>
    have hA : portB m l id to = ([], 3) := by rw [portB, haa, if_pos rfl, hx]
    rw [hA]
    rw [hx] at h2 eG
    simp [h1, h2]
    rw [← eG]
    simp [h3]
    exact ⟨.nil _ _, cG⟩
  | some x =>
    rw [hx] at h2 eG rG
    simp only [fA, Option.getD_some, Option.isSome_some] at h2 eG rG
    simp [h1, h2]
    rw [← eG]
    by_cases s0 : stL m to = 0
    · have hA : portB m l id to = ([], 3) := by rw [portB, haa, if_pos rfl, hx]; simp only; rw [if_pos s0]
      rw [hA]
      simp [h3, s0]
      exact ⟨.nil _ _, cG⟩
    by_cases k2 : x.kind = 2
    case neg =>
      have hA : portB m l id to = ([], 8) := by rw [portB, haa, if_pos rfl, hx]; simp only; rw [if_neg s0, if_pos k2]
      rw [hA]
      simp [h3, s0, rG, k2]
      exact ⟨.nil _ _, cG⟩
    by_cases s1 : stL m to = 1
    case neg =>
      have hA : portB m l id to = ([], 7) := by rw [portB, haa, if_pos rfl, hx]; simp only; rw [if_neg s0, if_neg (by simp [k2]), if_pos s1]
      rw [hA]
      simp [h3, s0, rG, k2, s1]
      exact ⟨.nil _ _, cG⟩
    have hA : portB m l id to = (l.map (memA id to), 0) := by rw [portB, haa, if_pos rfl, hx]; simp only; rw [if_neg s0, if_neg (by simp [k2]), if_neg (by simp [s1]), mem_same hac hx]
    rw [hA]
    have hm0 : l ≠ [] := by
      intro e
      rw [e] at hx
      simp [findL] at hx
    simp [h3, s0, rG, k2, s1]
    refine Hx.mapp (appAc_ok (h5.keep cG) hl) ?_
    rintro ⟨w, H1⟩ ⟨c1, t1, t2⟩
    simp only at c1 t1 t2
    obtain ⟨b, rfl, g1⟩ : ∃ b, w = .slice (some (b, 0)) l.length none 4 ∧ H1[b]? = some (.cells (acsC l) .rw) := by
      rcases t1 with (⟨c, s, rfl, e⟩ | h) | ⟨e, -⟩
      · exact (hm0 e).elim
      · exact h
      · exact (hm0 e).elim
    have hbG : H.length ≤ b := by have := t2 b (by simp); omega
    simp
    refine hx_up (fun i st => ∃ H', st = ⟨sp 61 [(2, .int .i64 id), (3, .int .i64 to), (13, .slice (some (b, 0)) l.length none 4), (14, .int .i64 i)], H', []⟩ ∧ Chg [b] H1 H' ∧ H'[b]? = some (.cells (acsC (stepL (memA id to) l i)) .rw)) l.length ?_ ?_ (by omega) ⟨H1, by simp [maskS], .refl, by rw [stepL_zero]; exact g1⟩
    · rintro i st hi ⟨H2, rfl, c2, g2⟩
      have hi' : (i : Int) < l.length := by omega
      have w : IntKind.i64.wrap ((i : Int) + 1) = (i : Int) + 1 := wrap_i64 (by omega) (by omega)
      obtain ⟨cur, ecur⟩ : ∃ cur, cur = stepL (memA id to) l i := ⟨_, rfl⟩
      have hcl : cur.length = l.length := by rw [ecur]; exact stepL_len (by omega)
      have hci : cur[i]? = some l[i] := by rw [ecur]; exact stepL_get hi
      have hcg : cur[i]'(by omega) = l[i] := by rw [List.getElem?_eq_getElem (by omega)] at hci; exact Option.some.inj hci
      have hso : SA H2 (.slice (some (b, 0)) l.length none 4) cur := SL.mk (by omega) (rowOf_rw (by rw [g2, ecur])) (by simp; omega) (by simp)
      obtain ⟨b', o', c', r, e, q0, qq⟩ := SA.all hso (by intro h; rw [h] at hcl; simp at hcl; omega)
      obtain ⟨z1, z2, z3, z4⟩ := AV.slice.inj e
      obtain ⟨rfl, rfl⟩ : b' = b ∧ o' = 0 := by simp at z1; omega
      obtain ⟨-, -, gf⟩ := qq i (by omega)
      rw [hcg] at gf
      obtain ⟨y, hy⟩ : ∃ y, y = l[i] := ⟨_, rfl⟩
      rw [← hy] at gf
      have f0 := gf 0 (by omega)
      simp only [Ac.cs, Nat.zero_add, Nat.add_zero, List.getElem?_cons_zero] at f0
      have hr : r = acsC cur := by rw [rowOf_rw (by rw [g2, ← ecur])] at q0; exact (Option.some.inj q0).symm
      rw [← ecur] at g2
      have qX := rowOf_rw g2
      have wX : rowRw H2 0 b' = some _ := rowRw_rw g2
      rw [hr] at f0
      by_cases hp : y.id = id
      · have hset := acs_setF (l := cur) (i := i) (j := 1) (v := .int .i64 to) (y := { y with mem := to }) (by omega) (by omega) (by rw [hcg, ← hy]; rfl)
        have hle : i * 4 + 1 + 1 ≤ 4 * cur.length := by omega
        rw [ecur, stepL_set (f := memA id to) (y := { y with mem := to }) hi (by rw [← hy, memA, if_pos hp]), ← ecur] at hset
        simp [hi', hi, qX, f0, hp, wX, hle, maskS, w]
        exact ⟨c2.tr' (.set _ _ _), by rw [List.getElem?_set_self (lt_of_get g2), hset]⟩
      · have hn := stepL_same (f := memA id to) hi (by rw [← hy, memA, if_neg hp])
        simp [hi', hi, qX, f0, hp, maskS, w]
        exact ⟨c2, by rw [hn, ← ecur]; exact g2⟩
    · rintro st ⟨H2, rfl, c2, g2⟩
      rw [stepL_all] at g2
      simp
      exact ⟨SL.mk (by omega) (rowOf_rw g2) (by simp; omega) (by simp), (cG.tr c1).trans c2 (fun i hi => .inr (by simp at hi; omega))⟩
end
end Go.Proofs.Ytobfodegdbfhdaa.T.Ro
end
section
/-! Enrol, Open of the document. -/
set_option linter.unusedVariables false
set_option linter.unusedSimpArgs false
set_option maxHeartbeats 40000000
set_option maxRecDepth 100000
namespace Go.Proofs.Ytobfodegdbfhdaa.T.Ro
open Go Go.Ab
section
variable {k : Nat} {H : AH}
theorem sm_take {v : AV} {l : List Mb} (h : SM H v l) {i : Nat} (hi : i ≤ l.length) : ∃ v', aslice H 2 v none (some (.int .i64 i)) none = some v' ∧ SM H v' (l.take i) := by
  obtain ⟨v', h1, h2, -, -⟩ := h.cut (low := none) (high := some (.int .i64 (i : Int))) (by omega) (lo := 0) (hi := i) (by omega) (by rw [mbsC_len]; omega) rfl (fun _ _ => rfl)
  rw [Nat.zero_mul, List.drop_zero, mbsC_take] at h2
  exact ⟨v', h1, h2⟩
theorem sm_drop {v : AV} {l : List Mb} (h : SM H v l) {i : Nat} (hi : i ≤ l.length) : ∃ v', aslice H 2 v (some (.int .i64 i)) none none = some v' ∧ SM H v' (l.drop i) := by
  obtain ⟨v', h1, h2, -, -⟩ := h.cut (low := some (.int .i64 (i : Int))) (high := none) (by omega) (lo := i) (hi := l.length) hi (by rw [mbsC_len]; omega) (by simp [lowIs]) (fun n hn => by rw [mbsC_len] at hn; simp [highIs]; omega)
  rw [List.take_of_length_le (by rw [mbsC_len]; omega), mbsC_drop] at h2
  exact ⟨v', h1, h2⟩
theorem sa_take {v : AV} {l : List Ac} (h : SA H v l) {i : Nat} (hi : i ≤ l.length) : ∃ v', aslice H 4 v none (some (.int .i64 i)) none = some v' ∧ SA H v' (l.take i) := by
  obtain ⟨v', h1, h2, -, -⟩ := h.cut (low := none) (high := some (.int .i64 (i : Int))) (by omega) (lo := 0) (hi := i) (by omega) (by rw [acsC_len]; omega) rfl (fun _ _ => rfl)
  rw [Nat.zero_mul, List.drop_zero, acsC_take] at h2
  exact ⟨v', h1, h2⟩
theorem sa_drop {v : AV} {l : List Ac} (h : SA H v l) {i : Nat} (hi : i ≤ l.length) : ∃ v', aslice H 4 v (some (.int .i64 i)) none none = some v' ∧ SA H v' (l.drop i) := by
  obtain ⟨v', h1, h2, -, -⟩ := h.cut (low := some (.int .i64 (i : Int))) (high := none) (by omega) (lo := i) (hi := l.length) hi (by rw [acsC_len]; omega) (by simp [lowIs]) (fun n hn => by rw [acsC_len] at hn; simp [highIs]; omega)
  rw [List.take_of_length_le (by rw [acsC_len]; omega), acsC_drop] at h2
  exact ⟨v', h1, h2⟩
theorem renrol_ok {v : AV} {m : List Mb} {id : Int} (h : SM H v m) (hl : m.length ≤ 900000) (hk : m.length + 60 < k) : Hx (callA ap k (.func 19 [] []) [v, .int .i64 id] 0 H) fun r => ∃ vr, r.1 = .tuple [vr, .int .i64 (enrolB m id).2] ∧ SM r.2 vr (enrolB m id).1 ∧ Chg [] H r.2 := by
  obtain ⟨k, rfl⟩ : ∃ k', k = k' + 3 := ⟨k - 3, by omega⟩
  rw [hx_go fn19 rfl, b19]
  have h1 := rmembers_ok (k := k + 2) h (by omega) (by omega)
  have h2 := rst_ok (k := k + 2) (id := id) h (by omega) (by omega)
  have h5 := h
  obtain ⟨a, c, s, rfl⟩ := h.form
  cases hmm : membersB m with
  | false =>
    have hA : enrolB m id = ([], 1) := by rw [enrolB, hmm]; rfl
    rw [hA]
    rw [hmm] at h1
    simp [h1]
    exact ⟨.nil _ _, .refl⟩
  | true =>
  rw [hmm] at h1
  by_cases q1 : id < 1
  · have hA : enrolB m id = ([], 1) := by rw [enrolB, if_neg (by omega)]
    rw [hA]
    simp [h1, q1]
    exact ⟨.nil _ _, .refl⟩
  by_cases q2 : 12 < id
  · have hA : enrolB m id = ([], 1) := by rw [enrolB, if_neg (by omega)]
    rw [hA]
    simp [h1, q1, q2]
    exact ⟨.nil _ _, .refl⟩
  by_cases h0 : stL m id = 0
  case neg =>
    have hA : enrolB m id = ([], 4) := by rw [enrolB, if_pos ⟨hmm, by omega, by omega⟩, if_neg h0]
    rw [hA]
    simp [h1, q1, q2, h2, h0]
    exact ⟨.nil _ _, .refl⟩
  have hA : enrolB m id = (m.take (posM m id) ++ ⟨id, 1⟩ :: m.drop (posM m id), 0) := by rw [enrolB, if_pos ⟨hmm, by omega, by omega⟩, if_pos h0]
  rw [hA]
  have hple : posM m id ≤ m.length := posB_le m
  simp [h1, q1, q2, h2, h0]
  refine hx_up (fun i st => st = ⟨sp 53 [(0, .slice a m.length c s), (1, .int .i64 id), (6, .slice none 0 (some 0) 0), (7, .int .i64 i)], H, []⟩) (posM m id) ?_ ?_ (by omega) (by simp [maskS])
  · rintro i st hi rfl
    have hil : i < m.length := by omega
    have hi' : (i : Int) < m.length := by omega
    have w : IntKind.i64.wrap ((i : Int) + 1) = (i : Int) + 1 := wrap_i64 (by omega) (by omega)
    obtain ⟨b, o, c', r, e, g0, g⟩ := SM.all h5 (by intro h; simp [h] at hil)
    obtain ⟨z1, z2, z3, z4⟩ := AV.slice.inj e
    subst z1 z3 z4
    have f0 := (g i hil).2.2 0 (by omega)
    have hy := posB_yes (P := fun x : Mb => decide (x.id < id)) hil hi
    obtain ⟨x, hx⟩ : ∃ x, x = m[i] := ⟨_, rfl⟩
    rw [← hx] at f0 hy
    simp only [Mb.cs, Nat.add_zero, List.getElem?_cons_zero, decide_eq_true_eq] at f0 hy
    simp [hi', hil, g0, f0, hy, maskS, w]
  · rintro st rfl
    obtain ⟨pp, epp⟩ : ∃ pp, pp = posM m id := ⟨_, rfl⟩
    rw [← epp] at hple ⊢
    obtain ⟨n1, hn1, sn1⟩ := sm_take h5 hple
    have hpi : (pp : Int) ≤ m.length := by omega
    have hlen : (m.take pp ++ (⟨id, 1⟩ : Mb) :: m.drop pp).length = m.length + 1 := by simp; omega
    by_cases hpl : pp < m.length
    · obtain ⟨b, o, c', r, e, g0, g⟩ := SM.all h5 (by intro h; simp [h] at hpl)
      obtain ⟨z1, z2, z3, z4⟩ := AV.slice.inj e
      subst z1 z3 z4
      have f0 := (g pp hpl).2.2 0 (by omega)
      have hn := posB_no (P := fun x : Mb => decide (x.id < id)) (l := m) (by rw [epp] at hpl; exact hpl)
      have hpp : posB (fun x : Mb => decide (x.id < id)) m = pp := by rw [epp]; rfl
      simp only [hpp] at hn
      obtain ⟨x, hx⟩ : ∃ x, x = m[pp] := ⟨_, rfl⟩
      rw [← hx] at f0 hn
      simp only [Mb.cs, Nat.add_zero, List.getElem?_cons_zero, decide_eq_false_iff_not] at f0 hn
      have hpl' : (pp : Int) < m.length := by omega
      simp [hpl', hpl, g0, f0, hn, hn1]
      refine Hx.mapp ((Mine.nil (H := H) (sz := 2) (some 0) 0).append sn1 (by omega) (by omega) (mbsC_one _) (by simp [room]; omega)) ?_
      rintro ⟨m1, H5⟩ ⟨t1, t2, t3⟩
      simp only [List.nil_append] at t1 t2 t3
      have t3' : ∀ i ∈ blk m1, (H).length ≤ i := fun i hi => (t3 i hi).elim (fun h => by simp at h) (fun h => h)
      have d5 : Chg [] H H5 := by simpa using t2
      obtain ⟨am, cm, sm, em⟩ := SM.form t1.sl
      rw [List.length_take, Nat.min_eq_left hple] at em
      subst em
      obtain ⟨H6, e6⟩ : ∃ H6, H6 = H5 ++ [.cells ((⟨id, 1⟩ : Mb)).cs .pl] := ⟨_, rfl⟩
      have c56 : Chg [] H5 H6 := by rw [e6]; exact .app _ _
      have slX : SL H6 2 (.slice (some (H5.length, 0)) 1 (some 1) 2) ((⟨id, 1⟩ : Mb)).cs := .at_ H5.length 0 1 (some 1) ((⟨id, 1⟩ : Mb)).cs _ (by omega) (by rw [e6]; simp [rowOf]) (by simp [Mb.cs]) (by simp [Mb.cs]) (by simp)
      simp only [Mb.cs] at e6
      simp
      rw [← e6]
      refine Hx.mapp ((t1.keep c56).append slX (by omega) (by omega) (by simp [Mb.cs]) (by simp [room, Mb.cs]; omega)) ?_
      rintro ⟨m2, H7⟩ ⟨u1, u2, u3⟩
      simp only at u1 u2 u3
      rw [← mbsC_snoc] at u1
      have u3' : ∀ i ∈ blk m2, (H).length ≤ i := fun i hi => (u3 i hi).elim (t3' i) (fun h => by have := c56.1; have := d5.1; omega)
      obtain ⟨am2, cm2, sm2, em2⟩ := SM.form u1.sl
      rw [List.length_append, List.length_take, Nat.min_eq_left hple] at em2
      subst em2
      have c47 : Chg [] H H7 := (d5.tr c56).trans u2 (fun i hi => .inr (t3' i hi))
      obtain ⟨n2, hn2, sn2⟩ := sm_drop (h5.keep c47) hple
      simp [hn2]
      refine Hx.mapp (u1.append sn2 (by omega) (by omega) (mbsC_one _) (by simp [room]; omega)) ?_
      rintro ⟨m3, H8⟩ ⟨w1, w2, w3⟩
      simp only at w1 w2
      rw [← mbsC_app, List.append_assoc, List.singleton_append] at w1
      obtain ⟨am3, cm3, sm3, em3⟩ := SM.form w1.sl
      rw [hlen] at em3
      subst em3
      simp
      have w9 := w1.sl
      exact ⟨w9, c47.trans w2 (fun i hi => .inr (u3' i hi))⟩
    · have hpe : pp = m.length := by omega
      have hpl' : ¬ (pp : Int) < m.length := by omega
      simp [hpl', hpl, hn1]
      refine Hx.mapp ((Mine.nil (H := H) (sz := 2) (some 0) 0).append sn1 (by omega) (by omega) (mbsC_one _) (by simp [room]; omega)) ?_
      rintro ⟨m1, H5⟩ ⟨t1, t2, t3⟩
      simp only [List.nil_append] at t1 t2 t3
      have t3' : ∀ i ∈ blk m1, (H).length ≤ i := fun i hi => (t3 i hi).elim (fun h => by simp at h) (fun h => h)
      have d5 : Chg [] H H5 := by simpa using t2
      obtain ⟨am, cm, sm, em⟩ := SM.form t1.sl
      rw [List.length_take, Nat.min_eq_left hple] at em
      subst em
      obtain ⟨H6, e6⟩ : ∃ H6, H6 = H5 ++ [.cells ((⟨id, 1⟩ : Mb)).cs .pl] := ⟨_, rfl⟩
      have c56 : Chg [] H5 H6 := by rw [e6]; exact .app _ _
      have slX : SL H6 2 (.slice (some (H5.length, 0)) 1 (some 1) 2) ((⟨id, 1⟩ : Mb)).cs := .at_ H5.length 0 1 (some 1) ((⟨id, 1⟩ : Mb)).cs _ (by omega) (by rw [e6]; simp [rowOf]) (by simp [Mb.cs]) (by simp [Mb.cs]) (by simp)
      simp only [Mb.cs] at e6
      simp
      rw [← e6]
      refine Hx.mapp ((t1.keep c56).append slX (by omega) (by omega) (by simp [Mb.cs]) (by simp [room, Mb.cs]; omega)) ?_
      rintro ⟨m2, H7⟩ ⟨u1, u2, u3⟩
      simp only at u1 u2 u3
      rw [← mbsC_snoc] at u1
      have u3' : ∀ i ∈ blk m2, (H).length ≤ i := fun i hi => (u3 i hi).elim (t3' i) (fun h => by have := c56.1; have := d5.1; omega)
      obtain ⟨am2, cm2, sm2, em2⟩ := SM.form u1.sl
      rw [List.length_append, List.length_take, Nat.min_eq_left hple] at em2
      subst em2
      have c47 : Chg [] H H7 := (d5.tr c56).trans u2 (fun i hi => .inr (t3' i hi))
      obtain ⟨n2, hn2, sn2⟩ := sm_drop (h5.keep c47) hple
      simp [hn2]
      refine Hx.mapp (u1.append sn2 (by omega) (by omega) (mbsC_one _) (by simp [room]; omega)) ?_
      rintro ⟨m3, H8⟩ ⟨w1, w2, w3⟩
      simp only at w1 w2
      rw [← mbsC_app, List.append_assoc, List.singleton_append] at w1
      obtain ⟨am3, cm3, sm3, em3⟩ := SM.form w1.sl
      rw [hlen] at em3
      subst em3
      simp
      have w9 := w1.sl
      exact ⟨w9, c47.trans w2 (fun i hi => .inr (u3' i hi))⟩
theorem ropen_ok {vm v : AV} {m : List Mb} {l : List Ac} {x : Ac} (hm : SM H vm m) (h : SA H v l) (hl : l.length ≤ 900000) (hl2 : m.length ≤ 900000) (hk : m.length + l.length + 80 < k) : Hx (callA ap k (.func 21 [] []) [vm, v, .agg x.cs] 0 H) fun r => ∃ vr, r.1 = .tuple [vr, .int .i64 (openB m l x).2] ∧ SA r.2 vr (openB m l x).1 ∧ Chg [] H r.2 := by
  obtain ⟨k, rfl⟩ : ∃ k', k = k' + 3 := ⟨k - 3, by omega⟩
  rw [hx_go fn21 rfl, b21]
  obtain ⟨G, eG⟩ : ∃ G, G = H ++ [.cells x.cs .rw] := ⟨_, rfl⟩
  have cG : Chg [] H G := by rw [eG]; exact .app _ _
  have rG : rowOf G H.length = some x.cs := by rw [eG]; simp [Ac.cs]
  have lG : G.length = H.length + 1 := by rw [eG]; simp
  have h1 := rright_ok (k := k + 2) (hm.keep cG) (h.keep cG) (by omega) (by omega) (by omega)
  have h5 := h
  have h6 := hm
  obtain ⟨a, c, s, rfl⟩ := h.form
  obtain ⟨a', c', s', rfl⟩ := hm.form
  cases haa : rollB m l with
  | false =>
    have hA : openB m l x = ([], 1) := by rw [openB, haa, if_neg (by simp)]
    rw [hA]
    rw [haa] at h1
    simp only [Ac.cs] at eG
    simp [Ac.cs]
    rw [← eG]
    simp [h1]
    exact ⟨.nil _ _, cG⟩
  | true =>
  rw [haa] at h1
  obtain ⟨G1, e1⟩ : ∃ G1, G1 = G ++ [.cells x.cs .pl] := ⟨_, rfl⟩
  have c1 : Chg [] G G1 := by rw [e1]; exact .app _ _
  have r1 := c1.row rG (by simp)
  have c01 := cG.tr c1
  have h2 := raccs_ok (k := k + 2) (one_acc (H := G) (x := x)) (by simp) (by simp; omega)
  rw [← e1] at h2
  cases hax : accsB [x] with
  | false =>
    have hA : openB m l x = ([], 1) := by rw [openB, hax, if_neg (by simp)]
    rw [hA]
    rw [hax] at h2
    simp only [Ac.cs] at eG e1 rG
    simp [Ac.cs]
    rw [← eG]
    simp [h1, rG]
    rw [← e1]
    simp [h2]
    exact ⟨.nil _ _, c01⟩
  | true =>
  rw [hax] at h2
  have hO : openB m l x = if stL m x.mem = 0 then ([], 3) else if stL m x.mem ≠ 1 then ([], 7) else if (findL l x.id).isSome = true ∨ (x.kind = 1 ∧ houseL l x.mem ≠ 0) then ([], 4) else (l.take (posA l x.id) ++ x :: l.drop (posA l x.id), 0) := by rw [openB, if_pos ⟨haa, hax⟩]
  have h3 := rfd_ok (k := k + 2) (id := x.id) (h5.keep c01) (by omega) (by omega)
  obtain ⟨G2, e2⟩ : ∃ G2, G2 = G1 ++ [.cells (fA (findL l x.id)).cs .rw] := ⟨_, rfl⟩
  have c2 : Chg [] G1 G2 := by rw [e2]; exact .app _ _
  have c02 := c01.tr c2
  have r2 := c2.row r1 (by simp)
  have h4 := rst_ok (k := k + 2) (id := x.mem) (h6.keep c01) (by omega) (by omega)
  have h7 := rhouse_ok (k := k + 2) (mem := x.mem) (h5.keep c02) (by omega) (by omega)
  have hac : accsB l = true := by unfold rollB at haa; simp only [Bool.and_eq_true] at haa; exact haa.2.1
  have hho : houseB l x.mem = houseL l x.mem := by rw [houseB, hac]; rfl
  try rw [hho] at h7
  simp only [Ac.cs] at eG e1 e2 rG r1 r2 h3
  rw [hO]
  simp [Ac.cs]
  rw [← eG]
  simp [h1, rG]
  rw [← e1]
  by_cases s0 : stL m x.mem = 0
  · rw [if_pos s0]
    simp [h2, r1, h4, s0]
    exact ⟨.nil _ _, c01⟩
  rw [if_neg s0]
  by_cases s1 : stL m x.mem = 1
  case neg =>
    rw [if_pos s1]
    simp [h2, r1, h4, s0, s1]
    exact ⟨.nil _ _, c01⟩
  rw [if_neg (by simp [s1])]
  cases hx : (findL l x.id).isSome with
  | true =>
    rw [if_pos (.inl rfl)]
    rw [hx] at h3
    simp [h2, r1, h4, s0, s1, h3]
    rw [← e2]
    exact ⟨.nil _ _, c02⟩
  | false =>
  rw [hx] at h3
  by_cases kh : x.kind = 1 ∧ houseL l x.mem ≠ 0
  · rw [if_pos (.inr kh)]
    simp [h2, r1, h4, s0, s1, h3]
    rw [← e2]
    simp [r2, kh.1, h7, kh.2]
    exact ⟨.nil _ _, c02⟩
  rw [if_neg (by simp only [Bool.false_eq_true, false_or]; exact kh)]
  simp [h2, r1, h4, s0, s1, h3]
  rw [← e2]
  have hple : posA l x.id ≤ l.length := posB_le l
  by_cases k1 : x.kind = 1
  · have hh : houseL l x.mem = 0 := by
      by_cases hz : houseL l x.mem = 0
      · exact hz
      · exact (kh ⟨k1, hz⟩).elim
    simp [r2, k1, h7, hh]
    refine hx_up (fun i st => ∃ H', st = ⟨sp 81 [(1, .slice a l.length c s), (5, .ptr (some (H.length, 0))), (11, .slice none 0 (some 0) 0), (12, .int .i64 i)], H', []⟩ ∧ Chg [] G2 H') (posA l x.id) ?_ ?_ (by omega) ⟨G2, by simp [maskS], .refl⟩
    · rintro i st hi ⟨H3, rfl, c3⟩
      have hil : i < l.length := by omega
      have hi' : (i : Int) < l.length := by omega
      have w : IntKind.i64.wrap ((i : Int) + 1) = (i : Int) + 1 := wrap_i64 (by omega) (by omega)
      simp
      refine hx_drawn dc21_13 fun X cX _ _ => ?_
      have c4 := c3.tr cX
      obtain ⟨b, o, c'', r, e, g0, g⟩ := SA.all (h5.keep (c02.tr c4)) (by intro h; simp [h] at hil)
      obtain ⟨z1, z2, z3, z4⟩ := AV.slice.inj e
      subst z1 z3 z4
      have f0 := (g i hil).2.2 0 (by omega)
      have hy := posB_yes (P := fun y : Ac => decide (y.id < x.id)) hil hi
      obtain ⟨y, hyy⟩ : ∃ y, y = l[i] := ⟨_, rfl⟩
      rw [← hyy] at f0 hy
      simp only [Ac.cs, Nat.add_zero, List.getElem?_cons_zero, decide_eq_true_eq] at f0 hy
      have rX := c4.row r2 (by simp)
      simp [d21_13, hi', hil, g0, f0, rX, hy, maskS, w]
      exact c4
    · rintro st ⟨H3, rfl, c3⟩
      obtain ⟨pp, epp⟩ : ∃ pp, pp = posA l x.id := ⟨_, rfl⟩
      rw [← epp] at hple ⊢
      have hlen : (l.take pp ++ x :: l.drop pp).length = l.length + 1 := by simp; omega
      simp
      refine hx_drawn dc21_13 fun X cX _ _ => ?_
      have c4 := c3.tr cX
      have rX := c4.row r2 (by simp)
      obtain ⟨n1, hn1, sn1⟩ := sa_take (h5.keep (c02.tr c4)) hple
      have hpi : (pp : Int) ≤ l.length := by omega
      by_cases hpl : pp < l.length
      · obtain ⟨b, o, c'', r, e, g0, g⟩ := SA.all (h5.keep (c02.tr c4)) (by intro h; simp [h] at hpl)
        obtain ⟨z1, z2, z3, z4⟩ := AV.slice.inj e
        subst z1 z3 z4
        have f0 := (g pp hpl).2.2 0 (by omega)
        have hn := posB_no (P := fun y : Ac => decide (y.id < x.id)) (l := l) (by rw [epp] at hpl; exact hpl)
        have hpp : posB (fun y : Ac => decide (y.id < x.id)) l = pp := by rw [epp]; rfl
        simp only [hpp] at hn
        obtain ⟨y, hyy⟩ : ∃ y, y = l[pp] := ⟨_, rfl⟩
        rw [← hyy] at f0 hn
        simp only [Ac.cs, Nat.add_zero, List.getElem?_cons_zero, decide_eq_false_iff_not] at f0 hn
        have hpl' : (pp : Int) < l.length := by omega
        simp [d21_13, hpl', hpl, g0, f0, rX, hn, hn1]
        refine Hx.mapp ((Mine.nil (H := X) (sz := 4) (some 0) 0).append sn1 (by omega) (by omega) (acsC_one _) (by simp [room]; omega)) ?_
        rintro ⟨m1, H5⟩ ⟨t1, t2, t3⟩
        simp only [List.nil_append] at t1 t2 t3
        have t3' : ∀ i ∈ blk m1, (X).length ≤ i := fun i hi => (t3 i hi).elim (fun h => by simp at h) (fun h => h)
        have d5 : Chg [] X H5 := by simpa using t2
        obtain ⟨am, cm, sm, em⟩ := SA.form t1.sl
        rw [List.length_take, Nat.min_eq_left hple] at em
        subst em
        obtain ⟨H6, e6⟩ : ∃ H6, H6 = H5 ++ [.cells (x).cs .pl] := ⟨_, rfl⟩
        have c56 : Chg [] H5 H6 := by rw [e6]; exact .app _ _
        have slX : SL H6 4 (.slice (some (H5.length, 0)) 1 (some 1) 4) (x).cs := .at_ H5.length 0 1 (some 1) (x).cs _ (by omega) (by rw [e6]; simp [rowOf]) (by simp [Ac.cs]) (by simp [Ac.cs]) (by simp)
        simp only [Ac.cs] at e6
        have r5 := d5.row rX (by simp)
        simp [r5]
        rw [← e6]
        refine Hx.mapp ((t1.keep c56).append slX (by omega) (by omega) (by simp [Ac.cs]) (by simp [room, Ac.cs]; omega)) ?_
        rintro ⟨m2, H7⟩ ⟨u1, u2, u3⟩
        simp only at u1 u2 u3
        rw [← acsC_snoc] at u1
        have u3' : ∀ i ∈ blk m2, (X).length ≤ i := fun i hi => (u3 i hi).elim (t3' i) (fun h => by have := c56.1; have := d5.1; omega)
        obtain ⟨am2, cm2, sm2, em2⟩ := SA.form u1.sl
        rw [List.length_append, List.length_take, Nat.min_eq_left hple] at em2
        subst em2
        have c47 : Chg [] X H7 := (d5.tr c56).trans u2 (fun i hi => .inr (t3' i hi))
        obtain ⟨n2, hn2, sn2⟩ := sa_drop (h5.keep ((c02.tr c4).tr c47)) hple
        simp [hn2]
        refine Hx.mapp (u1.append sn2 (by omega) (by omega) (acsC_one _) (by simp [room]; omega)) ?_
        rintro ⟨m3, H8⟩ ⟨w1, w2, w3⟩
        simp only at w1 w2
        rw [← acsC_app, List.append_assoc, List.singleton_append] at w1
        obtain ⟨am3, cm3, sm3, em3⟩ := SA.form w1.sl
        rw [hlen] at em3
        subst em3
        simp
        have w9 := w1.sl
        exact ⟨w9, (c02.tr c4).tr (c47.trans w2 (fun i hi => .inr (u3' i hi)))⟩
      · have hpe : pp = l.length := by omega
        have hpl' : ¬ (pp : Int) < l.length := by omega
        simp [d21_13, hpl', hpl, hn1]
        refine Hx.mapp ((Mine.nil (H := X) (sz := 4) (some 0) 0).append sn1 (by omega) (by omega) (acsC_one _) (by simp [room]; omega)) ?_
        rintro ⟨m1, H5⟩ ⟨t1, t2, t3⟩
        simp only [List.nil_append] at t1 t2 t3
        have t3' : ∀ i ∈ blk m1, (X).length ≤ i := fun i hi => (t3 i hi).elim (fun h => by simp at h) (fun h => h)
        have d5 : Chg [] X H5 := by simpa using t2
        obtain ⟨am, cm, sm, em⟩ := SA.form t1.sl
        rw [List.length_take, Nat.min_eq_left hple] at em
        subst em
        obtain ⟨H6, e6⟩ : ∃ H6, H6 = H5 ++ [.cells (x).cs .pl] := ⟨_, rfl⟩
        have c56 : Chg [] H5 H6 := by rw [e6]; exact .app _ _
        have slX : SL H6 4 (.slice (some (H5.length, 0)) 1 (some 1) 4) (x).cs := .at_ H5.length 0 1 (some 1) (x).cs _ (by omega) (by rw [e6]; simp [rowOf]) (by simp [Ac.cs]) (by simp [Ac.cs]) (by simp)
        simp only [Ac.cs] at e6
        have r5 := d5.row rX (by simp)
        simp [r5]
        rw [← e6]
        refine Hx.mapp ((t1.keep c56).append slX (by omega) (by omega) (by simp [Ac.cs]) (by simp [room, Ac.cs]; omega)) ?_
        rintro ⟨m2, H7⟩ ⟨u1, u2, u3⟩
        simp only at u1 u2 u3
        rw [← acsC_snoc] at u1
        have u3' : ∀ i ∈ blk m2, (X).length ≤ i := fun i hi => (u3 i hi).elim (t3' i) (fun h => by have := c56.1; have := d5.1; omega)
        obtain ⟨am2, cm2, sm2, em2⟩ := SA.form u1.sl
        rw [List.length_append, List.length_take, Nat.min_eq_left hple] at em2
        subst em2
        have c47 : Chg [] X H7 := (d5.tr c56).trans u2 (fun i hi => .inr (t3' i hi))
        obtain ⟨n2, hn2, sn2⟩ := sa_drop (h5.keep ((c02.tr c4).tr c47)) hple
        simp [hn2]
        refine Hx.mapp (u1.append sn2 (by omega) (by omega) (acsC_one _) (by simp [room]; omega)) ?_
        rintro ⟨m3, H8⟩ ⟨w1, w2, w3⟩
        simp only at w1 w2
        rw [← acsC_app, List.append_assoc, List.singleton_append] at w1
        obtain ⟨am3, cm3, sm3, em3⟩ := SA.form w1.sl
        rw [hlen] at em3
        subst em3
        simp
        have w9 := w1.sl
        exact ⟨w9, (c02.tr c4).tr (c47.trans w2 (fun i hi => .inr (u3' i hi)))⟩
  · simp [r2, k1]
    refine hx_up (fun i st => ∃ H', st = ⟨sp 81 [(1, .slice a l.length c s), (5, .ptr (some (H.length, 0))), (11, .slice none 0 (some 0) 0), (12, .int .i64 i)], H', []⟩ ∧ Chg [] G2 H') (posA l x.id) ?_ ?_ (by omega) ⟨G2, by simp [maskS], .refl⟩
    · rintro i st hi ⟨H3, rfl, c3⟩
      have hil : i < l.length := by omega
      have hi' : (i : Int) < l.length := by omega
      have w : IntKind.i64.wrap ((i : Int) + 1) = (i : Int) + 1 := wrap_i64 (by omega) (by omega)
      simp
      refine hx_drawn dc21_13 fun X cX _ _ => ?_
      have c4 := c3.tr cX
      obtain ⟨b, o, c'', r, e, g0, g⟩ := SA.all (h5.keep (c02.tr c4)) (by intro h; simp [h] at hil)
      obtain ⟨z1, z2, z3, z4⟩ := AV.slice.inj e
      subst z1 z3 z4
      have f0 := (g i hil).2.2 0 (by omega)
      have hy := posB_yes (P := fun y : Ac => decide (y.id < x.id)) hil hi
      obtain ⟨y, hyy⟩ : ∃ y, y = l[i] := ⟨_, rfl⟩
      rw [← hyy] at f0 hy
      simp only [Ac.cs, Nat.add_zero, List.getElem?_cons_zero, decide_eq_true_eq] at f0 hy
      have rX := c4.row r2 (by simp)
      simp [d21_13, hi', hil, g0, f0, rX, hy, maskS, w]
      exact c4
    · rintro st ⟨H3, rfl, c3⟩
      obtain ⟨pp, epp⟩ : ∃ pp, pp = posA l x.id := ⟨_, rfl⟩
      rw [← epp] at hple ⊢
      have hlen : (l.take pp ++ x :: l.drop pp).length = l.length + 1 := by simp; omega
      simp
      refine hx_drawn dc21_13 fun X cX _ _ => ?_
      have c4 := c3.tr cX
      have rX := c4.row r2 (by simp)
      obtain ⟨n1, hn1, sn1⟩ := sa_take (h5.keep (c02.tr c4)) hple
      have hpi : (pp : Int) ≤ l.length := by omega
      by_cases hpl : pp < l.length
      · obtain ⟨b, o, c'', r, e, g0, g⟩ := SA.all (h5.keep (c02.tr c4)) (by intro h; simp [h] at hpl)
        obtain ⟨z1, z2, z3, z4⟩ := AV.slice.inj e
        subst z1 z3 z4
        have f0 := (g pp hpl).2.2 0 (by omega)
        have hn := posB_no (P := fun y : Ac => decide (y.id < x.id)) (l := l) (by rw [epp] at hpl; exact hpl)
        have hpp : posB (fun y : Ac => decide (y.id < x.id)) l = pp := by rw [epp]; rfl
        simp only [hpp] at hn
        obtain ⟨y, hyy⟩ : ∃ y, y = l[pp] := ⟨_, rfl⟩
        rw [← hyy] at f0 hn
        simp only [Ac.cs, Nat.add_zero, List.getElem?_cons_zero, decide_eq_false_iff_not] at f0 hn
        have hpl' : (pp : Int) < l.length := by omega
        simp [d21_13, hpl', hpl, g0, f0, rX, hn, hn1]
        refine Hx.mapp ((Mine.nil (H := X) (sz := 4) (some 0) 0).append sn1 (by omega) (by omega) (acsC_one _) (by simp [room]; omega)) ?_
        rintro ⟨m1, H5⟩ ⟨t1, t2, t3⟩
        simp only [List.nil_append] at t1 t2 t3
        have t3' : ∀ i ∈ blk m1, (X).length ≤ i := fun i hi => (t3 i hi).elim (fun h => by simp at h) (fun h => h)
        have d5 : Chg [] X H5 := by simpa using t2
        obtain ⟨am, cm, sm, em⟩ := SA.form t1.sl
        rw [List.length_take, Nat.min_eq_left hple] at em
        subst em
        obtain ⟨H6, e6⟩ : ∃ H6, H6 = H5 ++ [.cells (x).cs .pl] := ⟨_, rfl⟩
        have c56 : Chg [] H5 H6 := by rw [e6]; exact .app _ _
        have slX : SL H6 4 (.slice (some (H5.length, 0)) 1 (some 1) 4) (x).cs := .at_ H5.length 0 1 (some 1) (x).cs _ (by omega) (by rw [e6]; simp [rowOf]) (by simp [Ac.cs]) (by simp [Ac.cs]) (by simp)
        simp only [Ac.cs] at e6
        have r5 := d5.row rX (by simp)
        simp [r5]
        rw [← e6]
        refine Hx.mapp ((t1.keep c56).append slX (by omega) (by omega) (by simp [Ac.cs]) (by simp [room, Ac.cs]; omega)) ?_
        rintro ⟨m2, H7⟩ ⟨u1, u2, u3⟩
        simp only at u1 u2 u3
        rw [← acsC_snoc] at u1
        have u3' : ∀ i ∈ blk m2, (X).length ≤ i := fun i hi => (u3 i hi).elim (t3' i) (fun h => by have := c56.1; have := d5.1; omega)
        obtain ⟨am2, cm2, sm2, em2⟩ := SA.form u1.sl
        rw [List.length_append, List.length_take, Nat.min_eq_left hple] at em2
        subst em2
        have c47 : Chg [] X H7 := (d5.tr c56).trans u2 (fun i hi => .inr (t3' i hi))
        obtain ⟨n2, hn2, sn2⟩ := sa_drop (h5.keep ((c02.tr c4).tr c47)) hple
        simp [hn2]
        refine Hx.mapp (u1.append sn2 (by omega) (by omega) (acsC_one _) (by simp [room]; omega)) ?_
        rintro ⟨m3, H8⟩ ⟨w1, w2, w3⟩
        simp only at w1 w2
        rw [← acsC_app, List.append_assoc, List.singleton_append] at w1
        obtain ⟨am3, cm3, sm3, em3⟩ := SA.form w1.sl
        rw [hlen] at em3
        subst em3
        simp
        have w9 := w1.sl
        exact ⟨w9, (c02.tr c4).tr (c47.trans w2 (fun i hi => .inr (u3' i hi)))⟩
      · have hpe : pp = l.length := by omega
        have hpl' : ¬ (pp : Int) < l.length := by omega
        simp [d21_13, hpl', hpl, hn1]
        refine Hx.mapp ((Mine.nil (H := X) (sz := 4) (some 0) 0).append sn1 (by omega) (by omega) (acsC_one _) (by simp [room]; omega)) ?_
        rintro ⟨m1, H5⟩ ⟨t1, t2, t3⟩
        simp only [List.nil_append] at t1 t2 t3
        have t3' : ∀ i ∈ blk m1, (X).length ≤ i := fun i hi => (t3 i hi).elim (fun h => by simp at h) (fun h => h)
        have d5 : Chg [] X H5 := by simpa using t2
        obtain ⟨am, cm, sm, em⟩ := SA.form t1.sl
        rw [List.length_take, Nat.min_eq_left hple] at em
        subst em
        obtain ⟨H6, e6⟩ : ∃ H6, H6 = H5 ++ [.cells (x).cs .pl] := ⟨_, rfl⟩
        have c56 : Chg [] H5 H6 := by rw [e6]; exact .app _ _
        have slX : SL H6 4 (.slice (some (H5.length, 0)) 1 (some 1) 4) (x).cs := .at_ H5.length 0 1 (some 1) (x).cs _ (by omega) (by rw [e6]; simp [rowOf]) (by simp [Ac.cs]) (by simp [Ac.cs]) (by simp)
        simp only [Ac.cs] at e6
        have r5 := d5.row rX (by simp)
        simp [r5]
        rw [← e6]
        refine Hx.mapp ((t1.keep c56).append slX (by omega) (by omega) (by simp [Ac.cs]) (by simp [room, Ac.cs]; omega)) ?_
        rintro ⟨m2, H7⟩ ⟨u1, u2, u3⟩
        simp only at u1 u2 u3
        rw [← acsC_snoc] at u1
        have u3' : ∀ i ∈ blk m2, (X).length ≤ i := fun i hi => (u3 i hi).elim (t3' i) (fun h => by have := c56.1; have := d5.1; omega)
        obtain ⟨am2, cm2, sm2, em2⟩ := SA.form u1.sl
        rw [List.length_append, List.length_take, Nat.min_eq_left hple] at em2
        subst em2
        have c47 : Chg [] X H7 := (d5.tr c56).trans u2 (fun i hi => .inr (t3' i hi))
        obtain ⟨n2, hn2, sn2⟩ := sa_drop (h5.keep ((c02.tr c4).tr c47)) hple
        simp [hn2]
        refine Hx.mapp (u1.append sn2 (by omega) (by omega) (acsC_one _) (by simp [room]; omega)) ?_
        rintro ⟨m3, H8⟩ ⟨w1, w2, w3⟩
        simp only at w1 w2
        rw [← acsC_app, List.append_assoc, List.singleton_append] at w1
        obtain ⟨am3, cm3, sm3, em3⟩ := SA.form w1.sl
        rw [hlen] at em3
        subst em3
        simp
        have w9 := w1.sl
        exact ⟨w9, (c02.tr c4).tr (c47.trans w2 (fun i hi => .inr (u3' i hi)))⟩
end
end Go.Proofs.Ytobfodegdbfhdaa.T.Ro
end
section
/-! RollAll. -/
set_option linter.unusedVariables false
set_option linter.unusedSimpArgs false
set_option maxHeartbeats 40000000
set_option maxRecDepth 100000
namespace Go.Proofs.Ytobfodegdbfhdaa.T.Ro
open Go Go.Ab
section
variable {k : Nat} {H : AH}
theorem nums_eq {v w : AV} {l m : List Int} (ha : SL H 1 v (ints l)) (hb : SL H 1 w (ints m)) (hl : l.length ≤ 1000000) (hl2 : m.length ≤ 1000000) (hk : l.length + 10 < k) : callA ap k (.func 13 [] []) [v, w] 0 H = some (.bool (decide (l = m)), H) := by
  obtain ⟨k, rfl⟩ : ∃ k', k = k' + 1 := ⟨k - 1, by omega⟩
  refine Hx.eqn ?_
  rw [hx_gg fn13 rfl, b13]
  obtain ⟨x, c, s, rfl⟩ := ha.form1
  obtain ⟨x', c', s', rfl⟩ := hb.form1
  rw [ints_len] at ha hb ⊢
  rw [ints_len]
  by_cases hn : l.length = m.length
  · simp [hn]
    refine hx_up (fun i s1 => ∃ H', s1 = ⟨sp 26 [(0, .slice x m.length c s), (1, .slice x' m.length c' s'), (5, .int .i64 i)], H', []⟩ ∧ Chg [] H H' ∧ ∀ j (h1 : j < l.length) (h2 : j < m.length), j < i → l[j] = m[j]) m.length ?_ ?_ (by omega) ⟨H, rfl, .refl, by simp⟩
    · rintro i _ hi ⟨H', rfl, c1, hq⟩
      have hw : IntKind.i64.wrap ((i : Int) + 1) = ((i + 1 : Nat) : Int) := by rw [wrap_i64 (by omega) (by omega)]; omega
      simp [hi]
      refine hx_drawn dc13_6 fun H1 c2 _ _ => ?_
      have hi' : i < l.length := hn ▸ hi
      have c3 := c1.tr c2
      obtain ⟨b0, o0, c0, r0, e0, g0, g1⟩ := (ha.keep c3).get1 (i := i) (by simpa using hi')
      obtain ⟨b1, o1, c1', r1, e1, g2, g3⟩ := (hb.keep c3).get1 (i := i) (by simpa using hi)
      obtain ⟨z1, z2, z3, z4⟩ := AV.slice.inj e0
      subst z1 z3 z4
      obtain ⟨z1, z2, z3, z4⟩ := AV.slice.inj e1
      subst z1 z3 z4
      have q1 : (ints l)[i]? = some (.int .i64 l[i]) := by simp [ints, hi']
      have q2 : (ints m)[i]? = some (.int .i64 m[i]) := by simp [ints, hi]
      rw [q1] at g1
      rw [q2] at g3
      have hup : l[i] = m[i] → ∀ j (h1 : j < l.length) (h2 : j < m.length), j < i + 1 → l[j] = m[j] := fun he j h1 h2 hj => by
        rcases Nat.lt_succ_iff_lt_or_eq.1 hj with hj | rfl
        · exact hq j h1 h2 hj
        · exact he
      have hne : ¬ l[i] = m[i] → ¬ l = m := fun h e => h (by subst e; rfl)
      generalize l[i] = p at *
      generalize m[i] = q at *
      by_cases he : p = q
      · subst he
        simp [d13_6, hi, g0, g1, g2, g3, hw, eqV]
        exact ⟨H1, rfl, c3, hup rfl⟩
      · simp [d13_6, hi, g0, g1, g2, g3, hw, hne he, eqV, he, gcF_flat, c3]
    · rintro _ ⟨H', rfl, c1, hq⟩
      have he : l = m := List.ext_getElem hn fun j h1 h2 => hq j h1 h2 h2
      simp [he, gcF_flat, c1]
  · have hne : ¬ l = m := fun e => hn (by rw [e])
    have hn' : ¬ (l.length : Int) = (m.length : Int) := by omega
    simp [hn', hne]
theorem enrolB_len {m : List Mb} {id : Int} : (enrolB m id).1.length ≤ m.length + 1 := by
  have := posB_le (P := fun x : Mb => decide (x.id < id)) m
  unfold enrolB posM
  split
  · split <;> simp <;> omega
  · simp
theorem turnB_len {m : List Mb} {id kd : Int} : (turnB m id kd).1.length ≤ m.length := by
  unfold turnB
  split
  · split
    · simp
    · split <;> simp
  · simp
theorem openB_len {m : List Mb} {a : List Ac} {x : Ac} : (openB m a x).1.length ≤ a.length + 1 := by
  have := posB_le (P := fun y : Ac => decide (y.id < x.id)) a
  unfold openB posA
  split
  · split
    · simp
    · split
      · simp
      · split <;> simp <;> omega
  · simp
theorem limitB_len {a : List Ac} {id q : Int} : (limitB a id q).1.length ≤ a.length := by
  unfold limitB
  split
  · split <;> simp
  · simp
theorem portB_len {m : List Mb} {a : List Ac} {id to : Int} : (portB m a id to).1.length ≤ a.length := by
  unfold portB
  split
  · split
    · split
      · simp
      · split
        · simp
        · split <;> simp
    · simp
  · simp
theorem ownB_len {a : List Ac} {mem : Int} : (ownB a mem).length ≤ a.length := by
  unfold ownB
  split
  · exact ownL_len
  · simp
theorem told_ok {vm v : AV} {m : List Mb} {l : List Ac} {x : Ac} {id to q : Int} (hm : SM H vm m) (h : SA H v l) (hl : l.length ≤ 100) (hl2 : m.length ≤ 100) (hk : 900 < k) : Hx (callA ap k (.func 5 [] []) [vm, v, .agg x.cs, .int .i64 id, .int .i64 to, .int .i64 q] 0 H) fun r => r.1 = .bool true := by
  obtain ⟨k, rfl⟩ : ∃ k', k = k' + 9 := ⟨k - 9, by omega⟩
  rw [hx_go fn5 rfl, b5]
  obtain ⟨a, c, s, rfl⟩ := h.form
  obtain ⟨a', c', s', rfl⟩ := hm.form
  obtain ⟨G, eG⟩ : ∃ G, G = H ++ [.cells x.cs .rw] := ⟨_, rfl⟩
  have c0 : Chg [] H G := by rw [eG]; exact .app _ _
  have r0 : rowOf G H.length = some x.cs := by rw [eG]; simp [Ac.cs]
  simp only [Ac.cs] at eG r0
  simp [Ac.cs]
  rw [← eG]
  have s1 := enrol_ok (k := k + 8) (id := id) (hm.keep c0) (by omega) (by omega)
  refine Hx.mapp s1 ?_
  rintro ⟨r, H1⟩ ⟨v1, e, t1, c1⟩
  simp only at e t1 c1
  subst e
  obtain ⟨x1, y1, z1, ev⟩ := SM.form t1
  subst ev
  have s2 := renrol_ok (k := k + 8) (id := id) (hm.keep (c0.tr c1)) (by omega) (by omega)
  simp
  refine Hx.mapp s2 ?_
  rintro ⟨r, H2⟩ ⟨v2, e, t2, c2⟩
  simp only at e t2 c2
  subst e
  obtain ⟨x2, y2, z2, ev⟩ := SM.form t2
  subst ev
  have s3 := turn_ok (k := k + 8) (id := id) (kd := to) (hm.keep (c0.tr (c1.tr c2))) (by omega) (by omega)
  simp
  refine Hx.mapp s3 ?_
  rintro ⟨r, H3⟩ ⟨v3, e, t3, c3⟩
  simp only at e t3 c3
  subst e
  obtain ⟨x3, y3, z3, ev⟩ := SM.form t3
  subst ev
  have s4 := rturn_ok (k := k + 8) (id := id) (kd := to) (hm.keep (c0.tr (c1.tr (c2.tr c3)))) (by omega) (by omega)
  simp
  refine Hx.mapp s4 ?_
  rintro ⟨r, H4⟩ ⟨v4, e, t4, c4⟩
  simp only at e t4 c4
  subst e
  obtain ⟨x4, y4, z4, ev⟩ := SM.form t4
  subst ev
  have s5 := open_ok (k := k + 8) (x := x) (hm.keep (c0.tr (c1.tr (c2.tr (c3.tr c4))))) (h.keep (c0.tr (c1.tr (c2.tr (c3.tr c4))))) (by omega) (by omega) (by omega)
  simp only [Ac.cs, tag_eq] at s5
  have w5 := ((c1.tr (c2.tr (c3.tr c4)))).row r0 (by simp)
  simp [w5]
  refine Hx.mapp s5 ?_
  rintro ⟨r, H5⟩ ⟨v5, e, t5, c5⟩
  simp only at e t5 c5
  subst e
  obtain ⟨x5, y5, z5, ev⟩ := SA.form t5
  subst ev
  have s6 := ropen_ok (k := k + 8) (x := x) (hm.keep (c0.tr (c1.tr (c2.tr (c3.tr (c4.tr c5)))))) (h.keep (c0.tr (c1.tr (c2.tr (c3.tr (c4.tr c5)))))) (by omega) (by omega) (by omega)
  simp only [Ac.cs, tag_eq] at s6
  have w6 := ((c1.tr (c2.tr (c3.tr (c4.tr c5))))).row r0 (by simp)
  simp [w6]
  refine Hx.mapp s6 ?_
  rintro ⟨r, H6⟩ ⟨v6, e, t6, c6⟩
  simp only at e t6 c6
  subst e
  obtain ⟨x6, y6, z6, ev⟩ := SA.form t6
  subst ev
  have s7 := limit_ok (k := k + 8) (id := id) (q := q) (h.keep (c0.tr (c1.tr (c2.tr (c3.tr (c4.tr (c5.tr c6))))))) (by omega) (by omega)
  simp
  refine Hx.mapp s7 ?_
  rintro ⟨r, H7⟩ ⟨v7, e, t7, c7⟩
  simp only at e t7 c7
  subst e
  obtain ⟨x7, y7, z7, ev⟩ := SA.form t7
  subst ev
  have s8 := rlimit_ok (k := k + 8) (id := id) (q := q) (h.keep (c0.tr (c1.tr (c2.tr (c3.tr (c4.tr (c5.tr (c6.tr c7)))))))) (by omega) (by omega)
  simp
  refine Hx.mapp s8 ?_
  rintro ⟨r, H8⟩ ⟨v8, e, t8, c8⟩
  simp only at e t8 c8
  subst e
  obtain ⟨x8, y8, z8, ev⟩ := SA.form t8
  subst ev
  have s9 := port_ok (k := k + 8) (id := id) (to := to) (hm.keep (c0.tr (c1.tr (c2.tr (c3.tr (c4.tr (c5.tr (c6.tr (c7.tr c8))))))))) (h.keep (c0.tr (c1.tr (c2.tr (c3.tr (c4.tr (c5.tr (c6.tr (c7.tr c8))))))))) (by omega) (by omega) (by omega)
  simp
  refine Hx.mapp s9 ?_
  rintro ⟨r, H9⟩ ⟨v9, e, t9, c9⟩
  simp only at e t9 c9
  subst e
  obtain ⟨x9, y9, z9, ev⟩ := SA.form t9
  subst ev
  have s10 := rport_ok (k := k + 8) (id := id) (to := to) (hm.keep (c0.tr (c1.tr (c2.tr (c3.tr (c4.tr (c5.tr (c6.tr (c7.tr (c8.tr c9)))))))))) (h.keep (c0.tr (c1.tr (c2.tr (c3.tr (c4.tr (c5.tr (c6.tr (c7.tr (c8.tr c9)))))))))) (by omega) (by omega) (by omega)
  simp
  refine Hx.mapp s10 ?_
  rintro ⟨r, H10⟩ ⟨v10, e, t10, c10⟩
  simp only at e t10 c10
  subst e
  obtain ⟨x10, y10, z10, ev⟩ := SA.form t10
  subst ev
  have cA : Chg [] H H10 := (c0.tr (c1.tr (c2.tr (c3.tr (c4.tr (c5.tr (c6.tr (c7.tr (c8.tr (c9.tr c10))))))))))
  have f1 := find_ok (k := k + 8) (id := id) (h.keep cA) (by omega) (by omega)
  obtain ⟨F1, eF1⟩ : ∃ F1, F1 = H10 ++ [.cells (fA (findB l id)).cs .rw] := ⟨_, rfl⟩
  have cF1 : Chg [] H10 F1 := by rw [eF1]; exact .app _ _
  have lF1 : F1.length = H10.length + 1 := by rw [eF1]; simp
  have f2 := rfind_ok (k := k + 8) (id := id) (h.keep (cA.tr cF1)) (by omega) (by omega)
  obtain ⟨F, eF⟩ : ∃ F, F = F1 ++ [.cells (fA (findB l id)).cs .rw] := ⟨_, rfl⟩
  have cF2 : Chg [] F1 F := by rw [eF]; exact .app _ _
  have cF : Chg [] H10 F := cF1.tr cF2
  have ra : rowOf F H10.length = some (fA (findB l id)).cs := cF2.row (by rw [eF1]; simp [Ac.cs]) (by simp)
  have rb : rowOf F (F1.length) = some (fA (findB l id)).cs := by rw [eF]; simp [Ac.cs]
  have hF := h.keep (cA.tr cF)
  have hmF := hm.keep (cA.tr cF)
  have n1 := enrolB_len (m := m) (id := id)
  have n2 := turnB_len (m := m) (id := id) (kd := to)
  have n3 := openB_len (m := m) (a := l) (x := x)
  have n4 := limitB_len (a := l) (id := id) (q := q)
  have n5 := portB_len (m := m) (a := l) (id := id) (to := to)
  have n6 := ownB_len (a := l) (mem := id)
  have q1 := mbs_eq (k := k + 8) (t1.keep ((c2.tr (c3.tr (c4.tr (c5.tr (c6.tr (c7.tr (c8.tr (c9.tr c10)))))))).tr cF)) (t2.keep ((c3.tr (c4.tr (c5.tr (c6.tr (c7.tr (c8.tr (c9.tr c10))))))).tr cF)) (by omega) (by omega) (by omega)
  have q2 := mbs_eq (k := k + 8) (t3.keep ((c4.tr (c5.tr (c6.tr (c7.tr (c8.tr (c9.tr c10)))))).tr cF)) (t4.keep ((c5.tr (c6.tr (c7.tr (c8.tr (c9.tr c10))))).tr cF)) (by omega) (by omega) (by omega)
  have q3 := acs_eq (k := k + 8) (t5.keep ((c6.tr (c7.tr (c8.tr (c9.tr c10)))).tr cF)) (t6.keep ((c7.tr (c8.tr (c9.tr c10))).tr cF)) (by omega) (by omega) (by omega)
  have q4 := acs_eq (k := k + 8) (t7.keep ((c8.tr (c9.tr c10)).tr cF)) (t8.keep ((c9.tr c10).tr cF)) (by omega) (by omega) (by omega)
  have q5 := acs_eq (k := k + 8) (t9.keep (c10.tr cF)) (t10.keep cF) (by omega) (by omega) (by omega)
  have g1 := members_ok (k := k + 8) hmF (by omega) (by omega)
  have g2 := rmembers_ok (k := k + 8) hmF (by omega) (by omega)
  have g3 := accs_ok (k := k + 8) hF (by omega) (by omega)
  have g4 := raccs_ok (k := k + 8) hF (by omega) (by omega)
  have g5 := right_ok (k := k + 8) hmF hF (by omega) (by omega) (by omega)
  have g6 := rright_ok (k := k + 8) hmF hF (by omega) (by omega) (by omega)
  have g7 := status_ok (k := k + 8) (id := id) hmF (by omega) (by omega)
  have g8 := rstatus_ok (k := k + 8) (id := id) hmF (by omega) (by omega)
  have g9 := house_ok (k := k + 8) (mem := id) hF (by omega) (by omega)
  have g10 := rhouse_ok (k := k + 8) (mem := id) hF (by omega) (by omega)
  have o1 := own_ok (k := k + 8) (mem := id) hF (by omega) (by omega)
  simp only [Ac.cs] at eF1 eF f1 f2 ra rb
  simp [f1]
  rw [← eF1]
  simp [f2]
  rw [← eF]
  simp [ra, rb, eqV, eqAc, q1, q2, q3, q4, q5, g1, g2, g3, g4, g5, g6, g7, g8, g9, g10]
  refine Hx.mapp o1 ?_
  rintro ⟨vo, H11⟩ ⟨u1, u2⟩
  simp only at u1 u2
  have o2 := rown_ok (k := k + 8) (mem := id) (hF.keep u2) (by omega) (by omega)
  obtain ⟨ao, co, so, eo⟩ := u1.form1
  rw [ints_len] at eo
  subst eo
  simp
  refine Hx.mapp o2 ?_
  rintro ⟨vp, H12⟩ ⟨u3, u4⟩
  simp only at u3 u4
  have o3 := nums_eq (k := k + 8) (u1.keep u4) u3 (by omega) (by omega) (by omega)
  obtain ⟨ap', cp, sp', ep⟩ := u3.form1
  rw [ints_len] at ep
  subst ep
  simp [o3]
def kM1 : List Mb := [⟨3, 1⟩]
def kM2 : List Mb := [⟨1, 1⟩, ⟨3, 1⟩]
def kM3 : List Mb := [⟨1, 2⟩, ⟨3, 1⟩]
def kA1 : List Ac := [⟨5, 3, 1, 0⟩]
def kA2 : List Ac := [⟨2, 3, 2, 0⟩, ⟨5, 3, 1, 0⟩]
def kA3 : List Ac := [⟨2, 3, 2, 0⟩, ⟨5, 3, 1, 9⟩]
def kA4 : List Ac := [⟨2, 1, 2, 0⟩, ⟨5, 3, 1, 9⟩]
theorem kn1 : enrolB [] 3 = (kM1, 0) := by decide
theorem kn2 : enrolB kM1 1 = (kM2, 0) := by decide
theorem kn3 : openB kM2 [] ⟨5, 3, 1, 0⟩ = (kA1, 0) := by decide
theorem kn4 : openB kM2 kA1 ⟨2, 3, 2, 0⟩ = (kA2, 0) := by decide
theorem kn5 : limitB kA2 5 9 = (kA3, 0) := by decide
theorem kn6 : portB kM2 kA3 2 1 = (kA4, 0) := by decide
theorem kn7 : turnB kM2 1 11 = (kM3, 0) := by decide
theorem kn8 : findB kA4 2 = some ⟨2, 1, 2, 0⟩ := by decide
theorem kn9 : houseB kA3 3 = 5 := by decide
theorem kn10 : ownB kA4 3 = [5] := by decide
theorem kn11 : statusB kM3 1 = 2 := by decide
theorem kn12 : rollB kM2 kA4 = true := by decide
theorem kn13 : membersB kM2 = true := by decide
theorem kn14 : accsB kA4 = true := by decide
theorem known_ok (hk : 900 < k) : Hx (callA ap k (.func 4 [] []) [] 0 H) fun r => r.1 = .bool true ∧ Chg [] H r.2 := by
  obtain ⟨k, rfl⟩ : ∃ k', k = k' + 9 := ⟨k - 9, by omega⟩
  rw [hx_go fn4 rfl, b4]
  have s1 := enrol_ok (k := k + 8) (id := 3) (H := H) (v := .slice none 0 (some 0) 0) (m := []) (.nil _ _) (by simp) (by simp; omega)
  rw [kn1] at s1
  simp only [Ac.cs, tag_eq] at s1
  simp
  refine Hx.mapp s1 ?_
  rintro ⟨r, H1⟩ ⟨v1, e, t1, c1⟩
  simp only at e t1 c1
  subst e
  obtain ⟨x1, y1, z1, ev⟩ := SM.form t1
  rw [show kM1.length = 1 from rfl] at ev
  subst ev
  have s2 := enrol_ok (k := k + 8) (id := 1) t1 (by decide) (by simp [kM1]; omega)
  rw [kn2] at s2
  simp only [Ac.cs, tag_eq] at s2
  simp
  refine Hx.mapp s2 ?_
  rintro ⟨r, H2⟩ ⟨v2, e, t2, c2⟩
  simp only at e t2 c2
  subst e
  obtain ⟨x2, y2, z2, ev⟩ := SM.form t2
  rw [show kM2.length = 2 from rfl] at ev
  subst ev
  have s3 := open_ok (k := k + 8) (x := ⟨5, 3, 1, 0⟩) (l := []) (v := .slice none 0 (some 0) 0) t2 (.nil _ _) (by simp) (by decide) (by simp [kM2]; omega)
  rw [kn3] at s3
  simp only [Ac.cs, tag_eq] at s3
  simp
  refine Hx.mapp s3 ?_
  rintro ⟨r, H3⟩ ⟨v3, e, t3, c3⟩
  simp only at e t3 c3
  subst e
  obtain ⟨x3, y3, z3, ev⟩ := SA.form t3
  rw [show kA1.length = 1 from rfl] at ev
  subst ev
  have s4 := open_ok (k := k + 8) (x := ⟨2, 3, 2, 0⟩) (t2.keep c3) t3 (by decide) (by decide) (by simp [kM2, kA1]; omega)
  rw [kn4] at s4
  simp only [Ac.cs, tag_eq] at s4
  simp
  refine Hx.mapp s4 ?_
  rintro ⟨r, H4⟩ ⟨v4, e, t4, c4⟩
  simp only at e t4 c4
  subst e
  obtain ⟨x4, y4, z4, ev⟩ := SA.form t4
  rw [show kA2.length = 2 from rfl] at ev
  subst ev
  have s5 := limit_ok (k := k + 8) (id := 5) (q := 9) t4 (by decide) (by simp [kA2]; omega)
  rw [kn5] at s5
  simp only [Ac.cs, tag_eq] at s5
  simp
  refine Hx.mapp s5 ?_
  rintro ⟨r, H5⟩ ⟨v5, e, t5, c5⟩
  simp only at e t5 c5
  subst e
  obtain ⟨x5, y5, z5, ev⟩ := SA.form t5
  rw [show kA3.length = 2 from rfl] at ev
  subst ev
  have s6 := port_ok (k := k + 8) (id := 2) (to := 1) (t2.keep (c3.tr (c4.tr c5))) t5 (by decide) (by decide) (by simp [kM2, kA3]; omega)
  rw [kn6] at s6
  simp only [Ac.cs, tag_eq] at s6
  simp
  refine Hx.mapp s6 ?_
  rintro ⟨r, H6⟩ ⟨v6, e, t6, c6⟩
  simp only at e t6 c6
  subst e
  obtain ⟨x6, y6, z6, ev⟩ := SA.form t6
  rw [show kA4.length = 2 from rfl] at ev
  subst ev
  have s7 := turn_ok (k := k + 8) (id := 1) (kd := 11) (t2.keep (c3.tr (c4.tr (c5.tr c6)))) (by decide) (by simp [kM2]; omega)
  rw [kn7] at s7
  simp only [Ac.cs, tag_eq] at s7
  simp
  refine Hx.mapp s7 ?_
  rintro ⟨r, H7⟩ ⟨v7, e, t7, c7⟩
  simp only at e t7 c7
  subst e
  obtain ⟨x7, y7, z7, ev⟩ := SM.form t7
  rw [show kM3.length = 2 from rfl] at ev
  subst ev
  have f1 := find_ok (k := k + 8) (id := 2) (t6.keep c7) (by decide) (by simp [kA4]; omega)
  rw [kn8] at f1
  obtain ⟨F, eF⟩ : ∃ F, F = H7 ++ [.cells [.int .i64 2, .int .i64 1, .int .i64 2, .int .i64 0] .rw] := ⟨_, rfl⟩
  have cF : Chg [] H7 F := by rw [eF]; exact .app _ _
  have rF : rowOf F H7.length = some [.int .i64 2, .int .i64 1, .int .i64 2, .int .i64 0] := by rw [eF]; simp
  simp only [fA, Option.getD_some, Ac.cs, Option.isSome_some] at f1
  simp [f1]
  rw [← eF]
  have c2F : Chg [] H2 F := c3.tr (c4.tr (c5.tr (c6.tr (c7.tr cF))))
  have m2 : SM F _ kM2 := t2.keep c2F
  obtain ⟨b, o, c, rr, e, q0, qq⟩ := SM.all m2 (by decide)
  obtain ⟨i1, i2, i3, i4⟩ := AV.slice.inj e
  subst i1 i3 i4
  have q1 := (qq 0 (by decide)).2.2 0 (by omega)
  have ql := (qq 0 (by decide)).1
  simp only [kM2, Mb.cs, Nat.zero_mul, Nat.add_zero, List.getElem_cons_zero, List.getElem?_cons_zero] at q1 ql
  have g1 := house_ok (k := k + 8) (mem := 3) (t5.keep (c6.tr (c7.tr cF))) (by decide) (by simp [kA3]; omega)
  rw [kn9] at g1
  have o1 := own_ok (k := k + 8) (mem := 3) (t6.keep (c7.tr cF)) (by decide) (by simp [kA4]; omega)
  rw [kn10] at o1
  simp [q0, q1, rF, g1]
  refine Hx.mapp o1 ?_
  rintro ⟨vo, H8⟩ ⟨u1, u2⟩
  simp only at u1 u2
  obtain ⟨ao, co, so, eo⟩ := u1.form1
  rw [show (ints [5]).length = 1 from rfl] at eo
  subst eo
  obtain ⟨H9, e9⟩ : ∃ H9, H9 = H8 ++ [.cells [.int .i64 5] .pl] := ⟨_, rfl⟩
  have c9 : Chg [] H8 H9 := by rw [e9]; exact .app _ _
  have hw1 : SL H9 1 (.slice (some (H8.length, 0)) 1 (some 1) 1) (ints [5]) := .at_ _ 0 1 (some 1) [.int .i64 5] _ (by omega) (by rw [e9]; simp [rowOf]) (by simp) (by simp [ints]) (by simp)
  have o3 := nums_eq (k := k + 8) (u1.keep c9) hw1 (by simp) (by simp) (by simp; omega)
  have c79 : Chg [] H7 H9 := cF.tr (u2.tr c9)
  have g2 := status_ok (k := k + 8) (id := 1) (t7.keep c79) (by decide) (by simp [kM3]; omega)
  rw [kn11] at g2
  have m29 := m2.keep (u2.tr c9)
  have g3 := right_ok (k := k + 8) m29 (t6.keep (c7.tr c79)) (by decide) (by decide) (by simp [kM2, kA4]; omega)
  rw [kn12] at g3
  have g4 := members_ok (k := k + 8) m29 (by decide) (by simp [kM2]; omega)
  rw [kn13] at g4
  have g5 := accs_ok (k := k + 8) (t6.keep (c7.tr c79)) (by decide) (by simp [kA4]; omega)
  rw [kn14] at g5
  simp
  rw [← e9]
  simp [o3, g2, g3, g4, g5]
  exact c1.tr (c2.tr (c3.tr (c4.tr (c5.tr (c6.tr (c7.tr c79))))))
theorem ar_ac {m : Nat} {al : List AV} (h : AR ap m H 25 al) : ∃ o : Ac, al = o.cs := by
  obtain ⟨parts, m2, rfl, k2, k3⟩ := ar_struct h ty25 rfl
  match parts, k2 with
  | [p0, p1, p2, p3], _ =>
    obtain ⟨z0, rfl, w0⟩ := ar_int (k3 0 (0, 3) p0 rfl rfl) ty3 rfl
    obtain ⟨z1, rfl, w1⟩ := ar_int (k3 1 (1, 3) p1 rfl rfl) ty3 rfl
    obtain ⟨z2, rfl, w2⟩ := ar_int (k3 2 (2, 3) p2 rfl rfl) ty3 rfl
    obtain ⟨z3, rfl, w3⟩ := ar_int (k3 3 (3, 2) p3 rfl rfl) ty2 rfl
    exact ⟨⟨z0, z1, z2, z3⟩, rfl⟩
theorem ar_mb {m : Nat} {al : List AV} (h : AR ap m H 39 al) : ∃ o : Mb, al = o.cs := by
  obtain ⟨parts, m2, rfl, k2, k3⟩ := ar_struct h ty39 rfl
  match parts, k2 with
  | [p0, p1], _ =>
    obtain ⟨z0, rfl, w0⟩ := ar_int (k3 0 (0, 3) p0 rfl rfl) ty3 rfl
    obtain ⟨z1, rfl, w1⟩ := ar_int (k3 1 (1, 3) p1 rfl rfl) ty3 rfl
    exact ⟨⟨z0, z1⟩, rfl⟩
theorem ar_acs {m : Nat} {al : List AV} (h : AR ap m H 23 al) : ∃ v l, al = [v] ∧ SA H v l := by
  obtain ⟨v, es, m', rfl, h1, h2⟩ := ar_slice h ty23 rfl ty25
  obtain ⟨l, g1, g2⟩ := list_choose (R := fun (x : List AV) (o : Ac) => x = o.cs) es fun x hx => ar_ac (h2 x hx).2
  have : es = l.map Ac.cs := by
    refine List.ext_getElem (by simp [g1]) fun i hi hj => ?_
    rw [List.getElem_map]
    have hil : i < l.length := by simpa using hj
    exact g2 i _ _ (List.getElem?_eq_getElem hi) (List.getElem?_eq_getElem hil)
  rw [this] at h1
  exact ⟨v, l, rfl, h1⟩
theorem ar_mbs {m : Nat} {al : List AV} (h : AR ap m H 22 al) : ∃ v l, al = [v] ∧ SM H v l := by
  obtain ⟨v, es, m', rfl, h1, h2⟩ := ar_slice h ty22 rfl ty39
  obtain ⟨l, g1, g2⟩ := list_choose (R := fun (x : List AV) (o : Mb) => x = o.cs) es fun x hx => ar_mb (h2 x hx).2
  have : es = l.map Mb.cs := by
    refine List.ext_getElem (by simp [g1]) fun i hi hj => ?_
    rw [List.getElem_map]
    have hil : i < l.length := by simpa using hj
    exact g2 i _ _ (List.getElem?_eq_getElem hi) (List.getElem?_eq_getElem hil)
  rw [this] at h1
  exact ⟨v, l, rfl, h1⟩
theorem rollAll_main (H : AH) (ass : List (List AV)) (hl : ass.length = [22, 23, 25, 3, 3, 2].length) (ha : ∀ (i : Nat) t al, [22, 23, 25, 3, 3, 2][i]? = some t → ass[i]? = some al → AR ap 6 H t al) :
    Hx (callA ap 2000 (.func 3 [] []) (List.zipWith (argA ap) [22, 23, 25, 3, 3, 2] ass) 0 H) fun r => r.1 = .bool true := by
  match ass, hl with
  | [a0, a1, a2, a3, a4, a5], _ =>
    obtain ⟨vm, m, rfl, hm⟩ := ar_mbs (ha 0 22 a0 rfl rfl)
    obtain ⟨v, l, rfl, h⟩ := ar_acs (ha 1 23 a1 rfl rfl)
    obtain ⟨x, rfl⟩ := ar_ac (ha 2 25 a2 rfl rfl)
    obtain ⟨id, rfl, w1⟩ := ar_int (ha 3 3 a3 rfl rfl) ty3 rfl
    obtain ⟨to, rfl, w2⟩ := ar_int (ha 4 3 a4 rfl rfl) ty3 rfl
    obtain ⟨q, rfl, w3⟩ := ar_int (ha 5 2 a5 rfl rfl) ty2 rfl
    have e25 : ∀ x, argA ap 25 x = .agg x := fun x => by unfold argA; rw [ty25]; rfl
    simp only [List.zipWith_cons_cons, List.zipWith_nil_right, argA_one ty22 rfl, argA_one ty23 rfl, argA_one ty3 rfl, argA_one ty2 rfl, e25, tag_eq]
    obtain ⟨K, hK⟩ : ∃ K, K + 1 = 2000 := ⟨1999, rfl⟩
    rw [← hK, hx_go fn3 rfl, b3]
    obtain ⟨a, c, s, rfl⟩ := h.form
    obtain ⟨a', c', s', rfl⟩ := hm.form
    obtain ⟨G, eG⟩ : ∃ G, G = H ++ [.cells x.cs .rw] := ⟨_, rfl⟩
    have cG : Chg [] H G := by rw [eG]; exact .app _ _
    have rG : rowOf G H.length = some x.cs := by rw [eG]; simp [Ac.cs]
    simp only [Ac.cs] at eG rG
    simp [Ac.cs]
    rw [← eG]
    refine Hx.mapp (known_ok (k := K) (H := G) (by omega)) ?_
    rintro ⟨r, H1⟩ ⟨e, c1⟩
    simp only at e c1
    subst e
    have rG1 := c1.row rG (by simp)
    by_cases h30 : 30 < (m.length : Int)
    · simp [h30]
    · by_cases h40 : 40 < (l.length : Int)
      · simp [h30, h40]
      · have ht := told_ok (k := K) (x := x) (id := id) (to := to) (q := q) (hm.keep (cG.tr c1)) (h.keep (cG.tr c1)) (by omega) (by omega) (by omega)
        simp only [Ac.cs, tag_eq] at ht
        simp [h30, h40, rG1]
        refine Hx.mapp ht ?_
        rintro ⟨r, H2⟩ e
        simp only at e
        subst e
        simp
end
end Go.Proofs.Ytobfodegdbfhdaa.T.Ro
end
