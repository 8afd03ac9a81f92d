import Derived.Test.YtdhedlkfpdakpaaN1
import Derived.Test.YtdhedlkfpdakpaaAbK
import Derived.Test.YtdhedlkfpdakpaaAbD
/-! Numbers in bytes: written and read, by the program and by the document. -/
set_option linter.unusedVariables false
set_option linter.unusedSimpArgs false
set_option maxHeartbeats 4000000
set_option maxRecDepth 100000
namespace Go.Proofs.Ytdhedlkfpdakpaa.T
open Go Go.Ab
/-- An own, new slice of bytes. -/
def New8 (H H' : AH) (v : AV) (bs : List Int) : Prop := Mine H' 1 v (u8s bs) ∧ Chg [] H H' ∧ ∀ i ∈ blk v, H.length ≤ i
theorem New8.to {H0 H H' : AH} {v v' : AV} {bs cs : List Int} (h : New8 H0 H v bs) (m : Mine H' 1 v' (u8s cs)) (c : Chg (blk v) H H') (k : ∀ i ∈ blk v', i ∈ blk v ∨ H.length ≤ i) : New8 H0 H' v' cs :=
  ⟨m, h.2.1.trans c (fun i hi => .inr (h.2.2 i hi)), fun i hi => (k i hi).elim (h.2.2 i) (fun e => Nat.le_trans h.2.1.1 e)⟩
theorem New8.keep {H0 H H' : AH} {v : AV} {bs : List Int} (h : New8 H0 H v bs) (c : Chg [] H H') : New8 H0 H' v bs := ⟨h.1.keep c, h.2.1.tr c, h.2.2⟩
theorem b8_new {H X : AH} {cs : List Int} {n : Nat} {c : Option Nat} (hX : X = H ++ [.cells (u8s cs) .rw]) (hn : n = cs.length) (h4 : ∀ k, c = some k → n ≤ k) : B8 X (.slice (some (H.length, 0)) n c 1) cs := by
  subst hX hn
  exact SL.mk Nat.one_pos (rowOf_rw (by simp)) (by simp) h4
section
variable {k : Nat} {H : AH} {b : AV} {bs : List Int} {n : Int}
theorem number_ok (hb : B8 H b bs) (hl : bs.length ≤ 1000000) (hn : I64 n) : Hx (callA ap (k + 20) (.func 21 [] []) [b, .int .i64 n] 0 H) fun r => New8 H r.2 r.1 (bs ++ enc n) := by
  rw [hx_go fn21 rfl, b21]
  obtain ⟨a, c, s, rfl⟩ := hb.len8
  obtain ⟨m, hm⟩ : ∃ m : Nat, m = bs.length + 10 := ⟨_, rfl⟩
  have hw : IntKind.i64.wrap ((bs.length : Int) + 10) = (m : Int) := by rw [wrap_i64 (by omega) (by omega)]; omega
  have hc : canMake 0 (m : Int) 1 1 := by unfold canMake room; omega
  have hz := zig_go n hn.1 hn.2
  have ow : Mine (H ++ [.cells (List.replicate m (.int .u8 0)) .rw]) 1 (.slice (some (H.length, 0)) 0 (some m) 1) [] := .row _ 0 _ (List.replicate m (.int .u8 0)) _ Nat.one_pos (by simp) (by simp) (by simp) (by simp)
  have sm : bs.length ≤ room := by unfold room; omega
  simp [f21, b21, hw, hc]
  refine Hx.mapp (ow.append (hb.keep (Chg.app _ _)) Nat.one_pos Nat.one_pos u8s_one (by simpa using sm)) ?_
  rintro ⟨v, H2⟩ ⟨m2, c2, k2⟩
  simp only [List.nil_append] at m2 c2 k2
  have nw : New8 H H2 v bs := ⟨m2, (Chg.app _ _).trans c2 (by simp), fun i hi => by rcases k2 i hi with h | h <;> simp at h <;> omega⟩
  simp [hz]
  refine hx_down (fun j s => ∃ v H2 u pre, s = ⟨sp 35 [(5, v), (6, .int .u64 u)], H2, []⟩ ∧ New8 H H2 v (bs ++ pre) ∧ 0 ≤ u ∧ u < pw j ∧ u < 18446744073709551616 ∧ pre ++ vb j u = enc n ∧ pre.length + j = 9) (j := 9) ?_ (by omega) ⟨v, H2, zig n, [], rfl, by simpa using nw, zig_nonneg n, by have := zig_lt n hn.1 hn.2; rw [pw_nine]; omega, zig_lt n hn.1 hn.2, rfl, rfl⟩
  rintro j _ ⟨v, H2, u, pre, rfl, nw, h0, h1, hb2, he, hj⟩
  clear c2 m2 k2
  have hs : (bs ++ pre).length + 1 ≤ room := by simp; unfold room; omega
  by_cases hu : 127 < u
  · cases j with
    | zero => simp only [pw] at h1; omega
    | succ j =>
      have hv : vb (j + 1) u = (u % 128 + 128) :: vb j (u / 128) := by simp only [vb]; rw [if_pos hu]
      rw [pw_succ] at h1
      simp [hu, or128, shr7]
      have nk : New8 H (H2 ++ [.cells [.int .u8 (u % 128 + 128)] .rw]) v (bs ++ pre) := nw.keep (.app _ _)
      refine Hx.mapp (nk.1.append (b8_new (cs := [u % 128 + 128]) rfl rfl (by simp)) Nat.one_pos Nat.one_pos u8s_one (by simpa using hs)) ?_
      rintro ⟨v3, H3⟩ ⟨m3, c3, k3⟩
      rw [← u8s_app] at m3
      simp only at m3 c3 k3
      simp [shr7]
      refine ⟨j, by omega, v3, H3, u / 128, rfl, pre ++ [u % 128 + 128], ?_, by omega, by omega, by omega, ?_, by simp; omega⟩
      · simpa using nk.to m3 c3 k3
      · rw [← he, hv]; simp
  · have hv : vb j u = [u] := by cases j <;> simp only [vb]; rw [if_neg (by omega)]
    have hw8 : IntKind.u8.wrap u = u := by rw [wrap_u8]; omega
    simp [hu, hw8]
    have nk : New8 H (H2 ++ [.cells [.int .u8 u] .rw]) v (bs ++ pre) := nw.keep (.app _ _)
    refine Hx.mapp (nk.1.append (b8_new (cs := [u]) rfl rfl (by simp)) Nat.one_pos Nat.one_pos u8s_one (by simpa using hs)) ?_
    rintro ⟨v3, H3⟩ ⟨m3, c3, k3⟩
    rw [← u8s_app] at m3
    simp only at m3 c3 k3
    simp
    have := nk.to m3 c3 k3
    rw [List.append_assoc, ← hv, he] at this
    exact this
theorem rnumber_ok (hb : B8 H b bs) (hl : bs.length ≤ 1000000) (hn : I64 n) : Hx (callA ap (k + 20) (.func 22 [] []) [b, .int .i64 n] 0 H) fun r => New8 H r.2 r.1 (bs ++ enc n) := by
  rw [hx_go fn22 rfl, b22]
  obtain ⟨a, c, s, rfl⟩ := hb.len8
  have ow : Mine (H ++ [.cells [] .rw]) 1 (.slice (some (H.length, 0)) 0 (some 0) 1) [] := .row _ 0 _ [] _ Nat.one_pos (by simp) (by simp) (by simp) (by simp)
  have sm : bs.length ≤ room := by unfold room; omega
  simp [f22, b22]
  refine Hx.mapp (ow.append (hb.keep (Chg.app _ _)) Nat.one_pos Nat.one_pos u8s_one (by simpa using sm)) ?_
  rintro ⟨v, H2⟩ ⟨m2, c2, k2⟩
  simp only [List.nil_append] at m2 c2 k2
  have nw : New8 H H2 v bs := ⟨m2, (Chg.app _ _).trans c2 (by simp), fun i hi => by rcases k2 i hi with h | h <;> simp at h <;> omega⟩
  clear c2 m2 k2 hb ow
  by_cases hneg : n < 0
  case' pos =>
    have hz := zig_ref_neg n hn.1 hneg
    simp [hneg, hz]
  case' neg =>
    have hz := zig_ref_pos n (by omega) hn.2
    simp [hneg, hz]
  all_goals
    refine hx_down (fun j s => ∃ v H2 u pre, s = ⟨sp 37 [(5, v), (6, .int .u64 u)], H2, []⟩ ∧ New8 H H2 v (bs ++ pre) ∧ 0 ≤ u ∧ u < pw j ∧ u < 18446744073709551616 ∧ pre ++ vb j u = enc n ∧ pre.length + j = 9) (j := 9) ?_ (by omega) ⟨v, H2, zig n, [], rfl, by simpa using nw, zig_nonneg n, by have := zig_lt n hn.1 hn.2; rw [pw_nine]; omega, zig_lt n hn.1 hn.2, rfl, rfl⟩
    rintro j _ ⟨v, H2, u, pre, rfl, nw, h0, h1, hb2, he, hj⟩
    have hs : (bs ++ pre).length + 1 ≤ room := by simp; unfold room; omega
    by_cases hu : 127 < u
    · cases j with
      | zero => simp only [pw] at h1; omega
      | succ j =>
        have hv : vb (j + 1) u = (u % 128 + 128) :: vb j (u / 128) := by simp only [vb]; rw [if_pos hu]
        have ha := and127_u64 u h0 hb2
        have hw : ior .u8 (IntKind.u8.wrap (u % 128)) 128 = u % 128 + 128 := by rw [or128]; omega
        rw [pw_succ] at h1
        simp [hu, ha, hw, shr7]
        have nk : New8 H (H2 ++ [.cells [.int .u8 (u % 128 + 128)] .rw]) v (bs ++ pre) := nw.keep (.app _ _)
        refine Hx.mapp (nk.1.append (b8_new (cs := [u % 128 + 128]) rfl rfl (by simp)) Nat.one_pos Nat.one_pos u8s_one (by simpa using hs)) ?_
        rintro ⟨v3, H3⟩ ⟨m3, c3, k3⟩
        rw [← u8s_app] at m3
        simp only at m3 c3 k3
        simp [shr7]
        refine ⟨j, by omega, v3, H3, u / 128, rfl, pre ++ [u % 128 + 128], ?_, by omega, by omega, by omega, ?_, by simp; omega⟩
        · simpa using nk.to m3 c3 k3
        · rw [← he, hv]; simp
    · have hv : vb j u = [u] := by cases j <;> simp only [vb]; rw [if_neg (by omega)]
      have hw8 : IntKind.u8.wrap u = u := by rw [wrap_u8]; omega
      simp [hu, hw8]
      have nk : New8 H (H2 ++ [.cells [.int .u8 u] .rw]) v (bs ++ pre) := nw.keep (.app _ _)
      refine Hx.mapp (nk.1.append (b8_new (cs := [u]) rfl rfl (by simp)) Nat.one_pos Nat.one_pos u8s_one (by simpa using hs)) ?_
      rintro ⟨v3, H3⟩ ⟨m3, c3, k3⟩
      rw [← u8s_app] at m3
      simp only at m3 c3 k3
      simp
      have := nk.to m3 c3 k3
      rw [List.append_assoc, ← hv, he] at this
      exact this
/-- What is read at the beginning; 0 and 0: nothing. -/
def got (st : Bool) (bs : List Int) : Int × Nat := (rdn st bs 0 0).getD (0, 0)
theorem drop_getD {l : List Int} {i : Nat} (h : i < l.length) : l.drop i = l.getD i 0 :: l.drop (i + 1) := by
  rw [List.drop_eq_getElem_cons h, List.getD_eq_getElem?_getD, List.getElem?_eq_getElem h]
  rfl
theorem more_up {i : Nat} (hi : i ≤ 9) {x c : Int} (h0 : 0 ≤ x) (h1 : x < pp i) : 0 ≤ more i x c ∧ more i x c < pp (i + 1) := by
  by_cases h8 : i ≤ 8
  · exact more_lt h8 h0 h1
  · obtain rfl : i = 9 := by omega
    have := more_hi (i := 9) (by omega) (c := c) h0 h1
    have h10 : pp (9 + 1) = 1180591620717411303424 := by decide
    omega
theorem take_ok (hb : B8 H b bs) (hB : Byt bs) (hl : bs.length ≤ 1000000) : Hx (callA ap (k + 20) (.func 37 [] []) [b] 0 H) fun r => r = (.tuple [.int .i64 (got false bs).1, .int .i64 ((got false bs).2 : Nat)], H) := by
  rw [hx_go fn37 rfl, b37]
  obtain ⟨a, c, s, rfl⟩ := hb.len8
  simp [f37, b37]
  refine hx_down (fun j s' => ∃ (i : Nat) (x : Int), s' = ⟨sp 42 [(0, .slice a bs.length c s), (4, .int .u64 x), (5, .int .i64 i)], H, []⟩ ∧ 0 ≤ x ∧ x < pp i ∧ i + j = 10 ∧ rdn false (bs.drop i) i x = rdn false bs 0 0) (j := 10) ?_ (by omega) ⟨0, 0, rfl, by omega, by decide, rfl, rfl⟩
  rintro j _ ⟨i, x, rfl, h0, h1, hj, he⟩
  by_cases hlt : i < bs.length
  · by_cases h10 : i < 10
    · have hx := more_up (i := i) (by omega) (c := bs.getD i 0) h0 h1
      have hh := more_hi (i := i) (by omega) (c := bs.getD i 0) h0 h1
      have hc := hB.get i
      have hw7 : IntKind.i64.wrap (7 * (i : Int)) = 7 * (i : Int) := wrap_i64 (by omega) (by omega)
      have hw1 : IntKind.i64.wrap ((i : Int) + 1) = ((i + 1 : Nat) : Int) := by rw [wrap_i64 (by omega) (by omega)]; omega
      have hn7 : ¬ 7 * (i : Int) < 0 := by omega
      have ho := or_step (i := i) (by omega) h0 h1 hc.1 hc.2 rfl
      have hu := unz_go _ hh.1 hh.2
      obtain ⟨b0, o, c0, l0, e0, g1, g2⟩ := hb.get8 hlt
      injection e0 with e1 e2 e3 e4
      subst e1 e3 e4
      rw [drop_getD hlt] at he
      simp only [rdn] at he
      rw [if_neg (by omega), if_neg (by simp)] at he
      generalize bs.getD i 0 = cc at *
      have hd10 : (i : Int) < 10 := by omega
      have hi1 : (i : Int) + 1 = ((i + 1 : Nat) : Int) := by omega
      by_cases h128 : cc < 128
      · rw [if_pos h128] at he
        simp [hlt, hd10, g1, g2, hw7, hn7, ho, h128, hu, hw1, got, ← he]
      · rw [if_neg h128] at he
        simp [hlt, hd10, g1, g2, hw7, hn7, ho, h128, hu, hw1]
        exact ⟨j - 1, by omega, i + 1, more i x cc, rfl, hx.1, hx.2, by omega, he⟩
    · have hd10 : ¬ (i : Int) < 10 := by omega
      rw [rdn_ten _ _ (by omega)] at he
      simp [hlt, hd10, got, ← he]
  · rw [List.drop_of_length_le (by omega)] at he
    have he : none = rdn false bs 0 0 := he
    simp [hlt, got, ← he]
theorem rnum_ok (hb : B8 H b bs) (hB : Byt bs) (hl : bs.length ≤ 1000000) {at_ : Nat} (ha : at_ ≤ bs.length) : Hx (callA ap (k + 20) (.func 42 [] []) [b, .int .i64 at_] 0 H) fun r =>
    r = (.tuple (match rdn true (bs.drop at_) 0 0 with | some r => [.int .i64 r.1, .int .i64 ((at_ + r.2 : Nat) : Int)] | none => [.int .i64 0, .int .i64 (-1)]), H) := by
  rw [hx_go fn42 rfl, b42]
  obtain ⟨a, c, s, rfl⟩ := hb.len8
  simp [f42, b42]
  refine hx_down (fun j s' => ∃ (i : Nat) (x : Int), s' = ⟨sp 70 [(0, .slice a bs.length c s), (1, .int .i64 at_), (6, .int .u64 x), (7, .int .i64 i)], H, []⟩ ∧ 0 ≤ x ∧ x < pp i ∧ i + j = 10 ∧ rdn true (bs.drop (at_ + i)) i x = rdn true (bs.drop at_) 0 0) (j := 10) ?_ (by omega) ⟨0, 0, rfl, by omega, by decide, rfl, rfl⟩
  rintro j _ ⟨i, x, rfl, h0, h1, hj, he⟩
  by_cases h10 : i < 10
  · obtain ⟨m, hm⟩ : ∃ m, m = at_ + i := ⟨_, rfl⟩
    obtain ⟨z, hz⟩ : ∃ z : Int, z = i := ⟨_, rfl⟩
    rw [← hm] at he
    rw [← hz]
    have hd10 : z < 10 := by omega
    have hwa : IntKind.i64.wrap ((at_ : Int) + z) = (m : Int) := by rw [wrap_i64 (by omega) (by omega)]; omega
    by_cases hlt : m < bs.length
    · have hx := more_up (i := i) (by omega) (c := bs.getD m 0) h0 h1
      have hh := more_hi (i := i) (by omega) (c := bs.getD m 0) h0 h1
      have hc := hB.get m
      have hw7 : IntKind.i64.wrap (7 * z) = 7 * z := wrap_i64 (by omega) (by omega)
      have hw1 : IntKind.i64.wrap (z + 1) = ((i + 1 : Nat) : Int) := by rw [wrap_i64 (by omega) (by omega)]; omega
      have hwb : IntKind.i64.wrap ((m : Int) + 1) = ((at_ + (i + 1) : Nat) : Int) := by rw [wrap_i64 (by omega) (by omega)]; omega
      have hn7 : ¬ 7 * z < 0 := by omega
      have ho := or_step (i := i) (by omega) h0 h1 hc.1 hc.2 (z := 7 * z) (by rw [hz])
      have hod := unz_ref_odd _ hh.1 hh.2
      have hev := unz_ref_even _ hh.1 hh.2
      obtain ⟨b0, o, c0, l0, e0, g1, g2⟩ := hb.get8 hlt
      injection e0 with e1 e2 e3 e4
      subst e1 e3 e4
      rw [drop_getD hlt] at he
      simp only [rdn] at he
      rw [if_neg (by omega), show m + 1 = at_ + (i + 1) by omega] at he
      generalize bs.getD m 0 = cc at *
      have q9 : ∀ q : Prop, [Decidable q] → ((i = 9) = q) → decide (z = 9) = decide q := fun q _ e => by rw [decide_eq_decide, ← e]; omega
      by_cases hq : i = 9 ∧ 1 < cc ∨ cc = 0 ∧ 0 < i
      · rw [if_pos ⟨trivial, hq⟩] at he
        by_cases t9 : i = 9
        · have d9 := q9 True (eq_true t9)
          by_cases t1 : 1 < cc
          · simp [hlt, hd10, g1, g2, hwa, d9, t1, ← he]
          · have t0 : cc = 0 := by omega
            have ti : 0 < z := by omega
            simp [hlt, hd10, g1, g2, hwa, d9, t0, ti, ← he]
        · have d9 := q9 False (eq_false t9)
          have t0 : cc = 0 := by omega
          have ti : 0 < z := by omega
          simp [hlt, hd10, g1, g2, hwa, d9, t0, ti, ← he]
      · rw [if_neg (fun h => hq h.2)] at he
        by_cases t9 : i = 9
        · have d9 := q9 True (eq_true t9)
          have t1 : ¬ 1 < cc := by omega
          have t0 : ¬ cc = 0 := by omega
          have t128 : cc < 128 := by omega
          rw [if_pos t128] at he
          by_cases o1 : iand .u64 (more i x cc) 1 = 1
          · have hod := hod o1
            simp [hlt, hd10, g1, g2, hwa, d9, t1, t0, hw7, hn7, ho, t128, o1, hod, hwb, ← he]
          · have hev := hev o1
            simp [hlt, hd10, g1, g2, hwa, d9, t1, t0, hw7, hn7, ho, t128, o1, hev, hwb, ← he]
        · have d9 := q9 False (eq_false t9)
          by_cases t0 : cc = 0
          · have ti : ¬ 0 < z := by omega
            subst t0
            rw [if_pos (by decide)] at he
            by_cases o1 : iand .u64 (more i x 0) 1 = 1
            · have hod := hod o1
              simp [hlt, hd10, g1, g2, hwa, d9, ti, hw7, hn7, ho, o1, hod, hwb, ← he]
            · have hev := hev o1
              simp [hlt, hd10, g1, g2, hwa, d9, ti, hw7, hn7, ho, o1, hev, hwb, ← he]
          · by_cases t128 : cc < 128
            · rw [if_pos t128] at he
              by_cases o1 : iand .u64 (more i x cc) 1 = 1
              · have hod := hod o1
                simp [hlt, hd10, g1, g2, hwa, d9, t0, hw7, hn7, ho, t128, o1, hod, hwb, ← he]
              · have hev := hev o1
                simp [hlt, hd10, g1, g2, hwa, d9, t0, hw7, hn7, ho, t128, o1, hev, hwb, ← he]
            · rw [if_neg t128] at he
              simp [hlt, hd10, g1, g2, hwa, d9, t0, hw7, hn7, ho, t128, hw1]
              exact ⟨j - 1, by omega, i + 1, more i x cc, rfl, hx.1, hx.2, by omega, he⟩
    · rw [List.drop_of_length_le (by omega)] at he
      have he : none = rdn true (bs.drop at_) 0 0 := he
      simp [hd10, hwa, hlt, ← he]
  · have hd10 : ¬ (i : Int) < 10 := by omega
    rw [rdn_ten _ _ (by omega)] at he
    simp [hd10, ← he]
end
end Go.Proofs.Ytdhedlkfpdakpaa.T
