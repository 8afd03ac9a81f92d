import Derived.Test.YtinehdoenhodoaaA12
/-! Records that are cut off; FrameTorn. -/
set_option linter.unusedVariables false
set_option linter.unusedSimpArgs false
set_option maxHeartbeats 4000000
set_option maxRecDepth 100000
namespace Go.Proofs.Ytinehdoenhodoaa.T
open Go Go.Ab
theorem nxt_cut {b : List Int} (hl : b.length ≤ 400) (rest : List Int) {m : Nat} (hm : m < b.length + 6) : nxt ((recB b ++ rest).take m) = ([], 0, 12) := by
  have hlen : (recB b ++ rest).length = b.length + 6 + rest.length := by simp [recB_len]
  unfold nxt
  by_cases h2 : m < 2
  · rw [if_pos (by rw [List.length_take]; omega)]
  · rw [if_neg (by rw [List.length_take]; omega)]
    have hh : hdN ((recB b ++ rest).take m) = b.length := by
      rw [← hdN_rec hl rest]
      unfold hdN
      simp only [List.getD_eq_getElem?_getD]
      rw [List.getElem?_take_of_lt (by omega), List.getElem?_take_of_lt (by omega)]
    rw [hh, if_neg (by omega), if_pos (by rw [List.length_take]; omega)]
theorem nxt_keep {b : List Int} (hl : b.length ≤ 400) (rest : List Int) {m : Nat} (hm : b.length + 6 ≤ m) : nxt ((recB b ++ rest).take m) = (b, b.length + 6, 0) := by
  rw [List.take_append, List.take_of_length_le (by rw [recB_len]; omega), nxt_rec hl]
section
variable {ls : List (List Int)} (hf : fitB ls) {n k : Nat} (hk : k ≤ ls.length) (h1 : (conc (ls.take k)).length ≤ n)
include hf hk h1
theorem torn_pos : ∀ j, j ≤ k → pos ((conc ls).take n) j = (conc (ls.take j)).length
  | 0, _ => by simp [pos, conc]
  | j + 1, hj => by
    have hmono : (conc (ls.take (j + 1))).length ≤ (conc (ls.take k)).length := by
      have : ls.take k = ls.take (j + 1) ++ (ls.take k).drop (j + 1) := by
        conv => lhs; rw [← List.take_append_drop (j + 1) (ls.take k)]
        rw [List.take_take, Nat.min_eq_left hj]
      rw [this, conc_app, List.length_append]
      omega
    have hs := conc_take (ls := ls) (i := j) (by omega)
    have hl := congrArg List.length hs
    rw [List.length_append, recB_len] at hl
    simp only [pos]
    rw [torn_pos j (by omega), List.drop_take, conc_drop, conc_cons (by omega), nxt_keep (hf.2 j (by omega)) _ (by omega)]
    rw [hl]
theorem torn_ok {j : Nat} (hj : j < k) : okAt ((conc ls).take n) j = true := by
  have hmono : (conc (ls.take (j + 1))).length ≤ (conc (ls.take k)).length := by
    have : ls.take k = ls.take (j + 1) ++ (ls.take k).drop (j + 1) := by
      conv => lhs; rw [← List.take_append_drop (j + 1) (ls.take k)]
      rw [List.take_take, Nat.min_eq_left hj]
    rw [this, conc_app, List.length_append]
    omega
  have hl := congrArg List.length (conc_take (ls := ls) (i := j) (by omega))
  rw [List.length_append, recB_len] at hl
  unfold okAt
  rw [torn_pos hf hk h1 j (by omega), List.drop_take, conc_drop, conc_cons (by omega), nxt_keep (hf.2 j (by omega)) _ (by omega)]
  rfl
theorem torn_nxt (h2 : n ≤ (conc ls).length) (h3 : k = ls.length ∨ n < (conc (ls.take (k + 1))).length) : nxt (((conc ls).take n).drop (conc (ls.take k)).length) = ([], 0, 12) := by
  rw [List.drop_take, conc_drop]
  rcases h3 with h3 | h3
  · subst h3
    simp [conc, nxt]
  · by_cases hkl : k < ls.length
    · have hl := congrArg List.length (conc_take (ls := ls) (i := k) hkl)
      rw [List.length_append, recB_len] at hl
      rw [conc_cons hkl, nxt_cut (hf.2 k hkl) _ (by omega)]
    · have : k = ls.length := by omega
      subst this
      simp [conc, nxt]
theorem torn_nrec (h2 : n ≤ (conc ls).length) (h3 : k = ls.length ∨ n < (conc (ls.take (k + 1))).length) : nrec ((conc ls).take n) = k := by
  rcases Nat.lt_trichotomy (nrec ((conc ls).take n)) k with h | h | h
  · have := nrec_no ((conc ls).take n)
    rw [torn_ok hf hk h1 h] at this
    cases this
  · exact h
  · have := nrec_ok h
    rw [okAt, torn_pos hf hk h1 k (Nat.le_refl _), torn_nxt hf hk h1 h2 h3] at this
    simp at this
end
theorem frameTorn_ok {H : AH} {vl : AV} {ls : List (List Int)} {cut : Int} (hl : BB H vl ls) (hlb : ∀ b ∈ ls, Byt b) (hm : 0 ≤ cut ∧ cut < 65536) :
    Hx (callA ap 20000 (.func 6 [] []) [vl, .int .u16 cut] 0 H) fun r => r.1 = .bool true := by
  rw [hx_call fn6 rfl]
  obtain ⟨al, cl, sl, rfl⟩ := hl.form
  simp [f6, b6, known_ok]
  refine Hx.mapp (fit_ok hl (by omega)) ?_
  rintro ⟨r, H1⟩ ⟨e, ⟨hf, e2⟩ | ⟨hf, e2⟩⟩ <;> simp only at e e2 <;> subst e <;> subst e2
  · simp
    refine Hx.mapp (all_ok hl hf (by omega)) ?_
    rintro ⟨r, H2⟩ ⟨c2, t, rfl, st⟩
    simp only at c2 st
    have lt := conc_len' hf
    have hcb := conc_byt hlb
    have hl2 := hl.chg c2 (by simp)
    obtain ⟨at_, ct, zt, rfl⟩ := st.len8
    have wm : IntKind.i64.wrap cut = cut := wrap_i64 (by omega) (by omega)
    have wl : IntKind.i64.wrap (((conc ls).length : Int) + 1) = ((conc ls).length : Int) + 1 := wrap_i64 (by omega) (by omega)
    have wz : ¬ ((conc ls).length : Int) + 1 = 0 := by omega
    obtain ⟨n, hn, hnl⟩ : ∃ n : Nat, cut.tmod (((conc ls).length : Int) + 1) = (n : Int) ∧ n ≤ (conc ls).length := by
      refine ⟨(cut.tmod (((conc ls).length : Int) + 1)).toNat, ?_, ?_⟩
      · have := Int.tmod_nonneg (((conc ls).length : Int) + 1) hm.1
        omega
      · have := Int.tmod_lt_of_pos cut (show 0 < ((conc ls).length : Int) + 1 by omega)
        omega
    simp [wm, wl, wz, hn]
    refine hx_down (fun j s => ∃ k, j = ls.length - k ∧ k ≤ ls.length ∧ (conc (ls.take k)).length ≤ n ∧ s = ⟨sp 96 [(0, .slice al ls.length cl sl), (4, .bool false), (5, .slice at_ (conc ls).length ct zt), (7, .int .i64 n), (8, .int .i64 (conc (ls.take k)).length), (9, .int .i64 k)], H2, []⟩)
      (j := ls.length) ?_ (by have := hf.1; omega) ⟨0, by omega, by omega, by simp [conc], by simp [maskS, conc]⟩
    rintro j _ ⟨k, rfl, hk, h1, rfl⟩
    have h20 := hf.1
    by_cases hkl : k < ls.length
    · have hkl' : (k : Int) < ls.length := by omega
      obtain ⟨b, o, cc, lr, z, ez, rr, gz, hz⟩ := hl2.get hkl
      cases ez
      obtain ⟨az, cz, sz, rfl⟩ := hz.len8
      have hs := congrArg List.length (conc_take hkl)
      rw [List.length_append, recB_len] at hs
      have h4 := hf.2 k hkl
      have wa : IntKind.i64.wrap (((conc (ls.take k)).length : Int) + ((ls.getD k []).length : Int)) = ((conc (ls.take k)).length : Int) + ((ls.getD k []).length : Int) := wrap_i64 (by omega) (by omega)
      have wb : IntKind.i64.wrap (((conc (ls.take k)).length : Int) + ((ls.getD k []).length : Int) + 6) = ((conc (ls.take k)).length : Int) + ((ls.getD k []).length : Int) + 6 := wrap_i64 (by omega) (by omega)
      by_cases hle : (conc (ls.take (k + 1))).length ≤ n
      · have hle' : ((conc (ls.take k)).length : Int) + ((ls.getD k []).length : Int) + 6 ≤ n := by omega
        have wc : IntKind.i64.wrap (((ls.getD k []).length : Int) + 6) = ((ls.getD k []).length : Int) + 6 := wrap_i64 (by omega) (by omega)
        have wd : IntKind.i64.wrap (((conc (ls.take k)).length : Int) + (((ls.getD k []).length : Int) + 6)) = ((conc (ls.take (k + 1))).length : Int) := by
          rw [wrap_i64 (by omega) (by omega)]; omega
        have wj : IntKind.i64.wrap ((k : Int) + 1) = (k : Int) + 1 := wrap_i64 (by omega) (by omega)
        generalize (ls.getD k []).length = bl at *
        generalize hN : (conc (ls.take (k + 1))).length = N at *
        generalize (conc (ls.take k)).length = M at *
        simp [hkl, hkl', rr, gz, wa, wb, hle', wc, wd, wj]
        exact ⟨ls.length - (k + 1), by omega, k + 1, rfl, by omega, by omega, by simp [maskS, hN]⟩
      · have hle' : ¬ ((conc (ls.take k)).length : Int) + ((ls.getD k []).length : Int) + 6 ≤ n := by omega
        generalize (ls.getD k []).length = bl at *
        have h3 : k = ls.length ∨ n < (conc (ls.take (k + 1))).length := .inr (by omega)
        simp [hkl, hkl', rr, gz, wa, wb, hle']
        have hu : (conc ls).take n = (conc ls).take n := rfl
        have tn := torn_nrec hf hk h1 hnl h3
        have tp := torn_pos hf hk h1 k (Nat.le_refl _)
        have tx := torn_nxt hf hk h1 hnl h3
        have hlu : ((conc ls).take n).length = n := by simp; omega
        obtain ⟨v1, a1, s1, _, _⟩ := st.cut8 (low := some (.int .i64 (conc (ls.take k)).length)) (high := some (.int .i64 n)) (lo := (conc (ls.take k)).length) (hi := n) h1 hnl (by simp [lowIs]) (by simp [highIs])
        simp only [a1]
        simp
        refine Hx.mapp (next_ok s1 ((hcb.take _).drop _) (by simp; omega) (by simp; omega)) ?_
        rintro ⟨r, H3⟩ ⟨c3, x, rfl, _, _⟩
        simp only at c3
        rw [tx]
        have c4 : Chg [] H3 (H3 ++ [.cells [.int .i64 0] .rw]) := .app _ _
        obtain ⟨v2, a2, s2, _, _⟩ := ((st.keep c3).keep c4).cut8 (low := none) (high := some (.int .i64 n)) (lo := 0) (hi := n) (Nat.zero_le _) hnl (by simp [lowIs]) (by simp [highIs])
        rw [List.drop_zero] at s2
        simp [rowRw, a2]
        refine Hx.mapp (walk_ok s2 (by omega)) ?_
        rintro ⟨g, H4⟩ ⟨c5, c, rfl, hcl, hw⟩
        simp
        simp only at c5 hw
        have p13 : H4[H3.length]? = some (.cells [.int .i64 0] .rw) := c5.get (by simp) (by simp)
        have l5 := c5.1
        simp at l5 hcl hw
        refine hx_range (walkA ((conc ls).take n)) (walkI c (H3.length + 1) ((conc ls).take n)) (fun j H' => Chg [H3.length] H4 H' ∧ H'[H3.length]? = some (.cells [.int .i64 (j : Nat)] .rw) ∧ walkI c (H3.length + 1) ((conc ls).take n) H') (fun _ _ => False) (n := nrec ((conc ls).take n)) rfl (walk1_goes (hcb.take _) (by omega) (by omega))
          (fun j Ha Hb ⟨a, b, c⟩ g => ⟨chg_ls a (by simp) g, get_ls b g, walkI_ls c g⟩) (fun _ _ _ h => h.elim) (fun _ _ h => h.2.2) (fun j Ha Hb a ⟨x, e, hx⟩ g => ⟨x, e, g.sl hx⟩) (fun j Ha a ⟨x, e, hx⟩ => by rw [e]; rfl) ⟨.refl, by simpa using p13, hw⟩ ?_ ?_ (fun _ _ _ h => h.elim)
        · rintro j hj Ha a _ ⟨x, rfl, hx⟩ H5 ⟨d1, d2, d3⟩ _ hl1 hl0 hd
          have wj : IntKind.i64.wrap ((j : Int) + 1) = (j : Int) + 1 := wrap_i64 (by omega) (by omega)
          have hlt := lt_of_get d2
          simp only at hl1 hd
          simp [as6_0, setL]
          intro ms
          simp [bd6_0, rowOf, rowRw, d2, wj]
          refine ⟨?_, ?_, d1.tr' (.set _ _ _), by simp [hlt], walkI_chg d3 (.set _ _ _) (by simp) hcl⟩
          · rw [List.getElem?_set_ne (by omega)]
          · rw [List.getElem?_set_ne (by omega)]
        · rintro H6 ⟨d1, d2, d3⟩ hd
          simp only at hd
          have c26 : Chg [] H2 H6 := ((c3.tr c4).tr c5).trans d1 (by have := c3.1; simp; omega)
          obtain ⟨v3, a3, s3, _, _⟩ := (st.keep c26).cut8 (low := none) (high := some (.int .i64 n)) (lo := 0) (hi := n) (Nat.zero_le _) hnl (by simp [lowIs]) (by simp [highIs])
          rw [List.drop_zero] at s3
          simp [a3]
          refine Hx.mapp (whole_ok s3 (hcb.take _) (by omega) (by omega)) ?_
          rintro ⟨r, H7⟩ ⟨c7, rfl⟩
          simp only at c7
          have e13 := c7.get d2 (by simp)
          have ed := c7.get hd (by simp)
          rw [tn] at e13 ⊢
          rw [tp]
          by_cases hkl2 : k = ls.length
          · subst hkl2
            simp [rowOf, e13, ed]
          · have hkl3 : ¬ (k : Int) = ls.length := by omega
            simp [rowOf, e13, ed, hkl2, hkl3]
    · have hkl' : ¬ (k : Int) < ls.length := by omega
      have h3 : k = ls.length ∨ n < (conc (ls.take (k + 1))).length := .inl (by omega)
      simp [hkl']
      have hu : (conc ls).take n = (conc ls).take n := rfl
      have tn := torn_nrec hf hk h1 hnl h3
      have tp := torn_pos hf hk h1 k (Nat.le_refl _)
      have tx := torn_nxt hf hk h1 hnl h3
      have hlu : ((conc ls).take n).length = n := by simp; omega
      obtain ⟨v1, a1, s1, _, _⟩ := st.cut8 (low := some (.int .i64 (conc (ls.take k)).length)) (high := some (.int .i64 n)) (lo := (conc (ls.take k)).length) (hi := n) h1 hnl (by simp [lowIs]) (by simp [highIs])
      simp only [a1]
      simp
      refine Hx.mapp (next_ok s1 ((hcb.take _).drop _) (by simp; omega) (by simp; omega)) ?_
      rintro ⟨r, H3⟩ ⟨c3, x, rfl, _, _⟩
      simp only at c3
      rw [tx]
      have c4 : Chg [] H3 (H3 ++ [.cells [.int .i64 0] .rw]) := .app _ _
      obtain ⟨v2, a2, s2, _, _⟩ := ((st.keep c3).keep c4).cut8 (low := none) (high := some (.int .i64 n)) (lo := 0) (hi := n) (Nat.zero_le _) hnl (by simp [lowIs]) (by simp [highIs])
      rw [List.drop_zero] at s2
      simp [rowRw, a2]
      refine Hx.mapp (walk_ok s2 (by omega)) ?_
      rintro ⟨g, H4⟩ ⟨c5, c, rfl, hcl, hw⟩
      simp
      simp only at c5 hw
      have p13 : H4[H3.length]? = some (.cells [.int .i64 0] .rw) := c5.get (by simp) (by simp)
      have l5 := c5.1
      simp at l5 hcl hw
      refine hx_range (walkA ((conc ls).take n)) (walkI c (H3.length + 1) ((conc ls).take n)) (fun j H' => Chg [H3.length] H4 H' ∧ H'[H3.length]? = some (.cells [.int .i64 (j : Nat)] .rw) ∧ walkI c (H3.length + 1) ((conc ls).take n) H') (fun _ _ => False) (n := nrec ((conc ls).take n)) rfl (walk1_goes (hcb.take _) (by omega) (by omega))
        (fun j Ha Hb ⟨a, b, c⟩ g => ⟨chg_ls a (by simp) g, get_ls b g, walkI_ls c g⟩) (fun _ _ _ h => h.elim) (fun _ _ h => h.2.2) (fun j Ha Hb a ⟨x, e, hx⟩ g => ⟨x, e, g.sl hx⟩) (fun j Ha a ⟨x, e, hx⟩ => by rw [e]; rfl) ⟨.refl, by simpa using p13, hw⟩ ?_ ?_ (fun _ _ _ h => h.elim)
      · rintro j hj Ha a _ ⟨x, rfl, hx⟩ H5 ⟨d1, d2, d3⟩ _ hl1 hl0 hd
        have wj : IntKind.i64.wrap ((j : Int) + 1) = (j : Int) + 1 := wrap_i64 (by omega) (by omega)
        have hlt := lt_of_get d2
        simp only at hl1 hd
        simp [as6_0, setL]
        intro ms
        simp [bd6_0, rowOf, rowRw, d2, wj]
        refine ⟨?_, ?_, d1.tr' (.set _ _ _), by simp [hlt], walkI_chg d3 (.set _ _ _) (by simp) hcl⟩
        · rw [List.getElem?_set_ne (by omega)]
        · rw [List.getElem?_set_ne (by omega)]
      · rintro H6 ⟨d1, d2, d3⟩ hd
        simp only at hd
        have c26 : Chg [] H2 H6 := ((c3.tr c4).tr c5).trans d1 (by have := c3.1; simp; omega)
        obtain ⟨v3, a3, s3, _, _⟩ := (st.keep c26).cut8 (low := none) (high := some (.int .i64 n)) (lo := 0) (hi := n) (Nat.zero_le _) hnl (by simp [lowIs]) (by simp [highIs])
        rw [List.drop_zero] at s3
        simp [a3]
        refine Hx.mapp (whole_ok s3 (hcb.take _) (by omega) (by omega)) ?_
        rintro ⟨r, H7⟩ ⟨c7, rfl⟩
        simp only at c7
        have e13 := c7.get d2 (by simp)
        have ed := c7.get hd (by simp)
        rw [tn] at e13 ⊢
        rw [tp]
        by_cases hkl2 : k = ls.length
        · subst hkl2
          simp [rowOf, e13, ed]
        · have hkl3 : ¬ (k : Int) = ls.length := by omega
          simp [rowOf, e13, ed, hkl2, hkl3]
  · simp
theorem frameTorn_main (H : AH) (ass : List (List AV)) (hl : ass.length = [30, 41].length) (ha : ∀ (i : Nat) t al, [30, 41][i]? = some t → ass[i]? = some al → AR ap 6 H t al) :
    Hx (callA ap 20000 (.func 6 [] []) (List.zipWith (argA ap) [30, 41] ass) 0 H) fun r => r.1 = .bool true := by
  match ass, hl with
  | [a0, a1], _ =>
    obtain ⟨v0, ls, rfl, h0, hb⟩ := ar_bb (ha 0 30 a0 rfl rfl)
    obtain ⟨z, rfl, hz⟩ := ar_int (ha 1 41 a1 rfl rfl) ty41 rfl
    simp only [List.zipWith_cons_cons, List.zipWith_nil_right, argA_one ty41 rfl, argA_one ty30 rfl]
    simp [Lit.wf, IntKind.has, IntKind.min, IntKind.max, IntKind.bits, IntKind.signed] at hz
    exact frameTorn_ok h0 hb (by omega)
end Go.Proofs.Ytinehdoenhodoaa.T
