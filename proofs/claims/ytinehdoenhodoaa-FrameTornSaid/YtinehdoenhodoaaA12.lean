import Derived.Test.YtinehdoenhodoaaA11
/-! Records one behind the other; FrameBack. -/
set_option linter.unusedVariables false
set_option linter.unusedSimpArgs false
set_option maxHeartbeats 4000000
set_option maxRecDepth 100000
namespace Go.Proofs.Ytinehdoenhodoaa.T
open Go Go.Ab
theorem hdN_rec {b : List Int} (hl : b.length ≤ 400) (rest : List Int) : hdN (recB b ++ rest) = b.length := by
  have e : recB b ++ rest = IntKind.u8.wrap (ishr .i64 b.length 8) :: IntKind.u8.wrap b.length :: (b ++ low4 (crcL (hd2 b.length ++ b)) ++ rest) := by simp [recB, hd2]
  have hs : ishr .i64 (b.length : Int) 8 = (b.length : Int) / 256 := by
    simp only [ishr, IntKind.bits]
    simp
    exact (Int.fdiv_eq_ediv_of_nonneg _ (by omega)).trans rfl
  unfold hdN
  rw [e]
  simp only [List.getD_cons_zero, List.getD_cons_succ]
  rw [hs, wrap_u8, wrap_u8]
  omega
theorem nxt_rec {b : List Int} (hl : b.length ≤ 400) (rest : List Int) : nxt (recB b ++ rest) = (b, b.length + 6, 0) := by
  unfold nxt
  rw [hdN_rec hl]
  have hlen : (recB b ++ rest).length = b.length + 6 + rest.length := by simp [recB_len]
  have hh : (hd2 b.length).length = 2 := rfl
  rw [if_neg (by omega), if_neg (by omega), if_neg (by omega)]
  have e1 : (recB b ++ rest).take (b.length + 2) = hd2 b.length ++ b := by
    unfold recB
    rw [List.append_assoc, List.take_left' (by simp [hh]; omega)]
  have e2 : ((recB b ++ rest).drop (b.length + 2)).take 4 = low4 (crcL (hd2 b.length ++ b)) := by
    unfold recB
    rw [List.append_assoc, List.drop_left' (by simp [hh]; omega)]
    exact List.take_left' rfl
  have e3 : ((recB b ++ rest).drop 2).take b.length = b := by
    unfold recB
    rw [List.append_assoc, List.append_assoc, List.drop_left' hh, List.take_left' rfl]
  rw [e1, e2, if_pos rfl, e3]
theorem conc_app (a b : List (List Int)) : conc (a ++ b) = conc a ++ conc b := by simp [conc]
theorem conc_drop {ls : List (List Int)} (j : Nat) : (conc ls).drop (conc (ls.take j)).length = conc (ls.drop j) := by
  conv => lhs; rw [← List.take_append_drop j ls, conc_app]
  rw [List.take_append_drop]
  rw [List.drop_left' rfl]
theorem conc_cons {ls : List (List Int)} {j : Nat} (hj : j < ls.length) : conc (ls.drop j) = recB (ls.getD j []) ++ conc (ls.drop (j + 1)) := by
  rw [List.drop_eq_getElem_cons hj]
  unfold conc
  rw [List.map_cons, List.flatten_cons]
  simp [hj]
section
variable {ls : List (List Int)} (hf : fitB ls)
include hf
theorem conc_pos : ∀ j, j ≤ ls.length → pos (conc ls) j = (conc (ls.take j)).length
  | 0, _ => by simp [pos, conc]
  | j + 1, hj => by
    simp only [pos]
    rw [conc_pos j (by omega), conc_drop, conc_cons (by omega), nxt_rec (hf.2 j (by omega)), conc_take (by omega), List.length_append, recB_len]
theorem conc_nxt {j : Nat} (hj : j < ls.length) : nxt ((conc ls).drop (pos (conc ls) j)) = (ls.getD j [], (ls.getD j []).length + 6, 0) := by
  rw [conc_pos hf j (by omega), conc_drop, conc_cons hj, nxt_rec (hf.2 j hj)]
theorem conc_nrec : nrec (conc ls) = ls.length := by
  rcases Nat.lt_trichotomy (nrec (conc ls)) ls.length with h | h | h
  · have := nrec_no (conc ls)
    simp [okAt, conc_nxt hf h] at this
  · exact h
  · have := nrec_ok h
    rw [okAt, conc_pos hf _ (Nat.le_refl _), conc_drop] at this
    simp [conc, nxt] at this
theorem conc_rcd {j : Nat} (hj : j < ls.length) : rcd (conc ls) j = ls.getD j [] := by unfold rcd; rw [conc_nxt hf hj]
theorem conc_end : pos (conc ls) (nrec (conc ls)) = (conc ls).length := by rw [conc_nrec hf, conc_pos hf _ (Nat.le_refl _), List.take_length]
end
theorem frameBack_ok {H : AH} {vl : AV} {ls : List (List Int)} {most : Int} (hl : BB H vl ls) (hlb : ∀ b ∈ ls, Byt b) (hm : 0 ≤ most ∧ most < 256) :
    Hx (callA ap 20000 (.func 5 [] []) [vl, .int .u8 most] 0 H) fun r => r.1 = .bool true := by
  rw [hx_call fn5 rfl]
  obtain ⟨al, cl, sl, rfl⟩ := hl.form
  have c0 : Chg [] H (H ++ [.cells [.slice al ls.length cl sl] .rw, .cells [.bool false] .rw]) := .app _ _
  have g2 : (H ++ [.cells [.slice al ls.length cl sl] .rw, .cells [.bool false] .rw])[H.length]? = some (.cells [.slice al ls.length cl sl] .rw) := by simp
  have g4 : (H ++ [.cells [.slice al ls.length cl sl] .rw, .cells [.bool false] .rw])[H.length + 1]? = some (.cells [.bool false] .rw) := by simp
  have hl1 := hl.chg c0 (by simp)
  simp [f5, b5, known_ok]
  generalize (H ++ [AB.cells [.slice al ls.length cl sl] .rw, .cells [.bool false] .rw]) = H1 at *
  have q2 := lt_of_get g4
  refine Hx.mapp (fit_ok hl1 (by omega)) ?_
  rintro ⟨r, H1'⟩ ⟨e, ⟨hf, e2⟩ | ⟨hf, e2⟩⟩ <;> simp only at e e2 <;> subst e <;> subst e2
  · simp [rowOf, g2]
    refine Hx.mapp (all_ok hl1 hf (by omega)) ?_
    rintro ⟨r, H2⟩ ⟨c2, t, rfl, st⟩
    simp only at c2 st
    have lt := conc_len' hf
    have hcb := conc_byt hlb
    obtain ⟨at_, ct, zt, rfl⟩ := st.len8
    simp
    refine Hx.mapp (whole_ok st hcb (by omega) (by omega)) ?_
    rintro ⟨r, H3⟩ ⟨c3, rfl⟩
    simp only at c3
    have e3 := (c2.tr c3).get g2 (by simp)
    have e4 := (c2.tr c3).get g4 (by simp)
    have wm : IntKind.i64.wrap most = most := wrap_i64 (by omega) (by omega)
    rw [conc_end hf]
    obtain ⟨n, hn, hnl⟩ : ∃ n : Nat, (if (ls.length : Int) < most then (ls.length : Int) else most) = (n : Int) ∧ n ≤ ls.length := by
      split
      · exact ⟨_, rfl, Nat.le_refl _⟩
      · exact ⟨most.toNat, by omega, by omega⟩
    simp [rowOf, rowRw, e3, wm, amm, amm1, hn]
    have c4 : Chg [] H3 (H3 ++ [.cells [.int .i64 n] .rw, .cells [.int .i64 0] .rw, .cells [.int .i64 0] .rw]) := .app _ _
    refine Hx.mapp (walk_ok ((st.keep c3).keep c4) (by omega)) ?_
    rintro ⟨g, H4⟩ ⟨c5, c, rfl, hcl, hw⟩
    simp
    have p7 : H4[H3.length]? = some (.cells [.int .i64 n] .rw) := c5.get (by simp) (by simp)
    have p8 : H4[H3.length + 1]? = some (.cells [.int .i64 0] .rw) := c5.get (by simp) (by simp)
    have p9 : H4[H3.length + 2]? = some (.cells [.int .i64 0] .rw) := c5.get (by simp) (by simp)
    simp only at c5 hw
    have c35 := c4.tr c5
    have p2 := c35.get e3 (by simp)
    have p4 := c35.get e4 (by simp)
    have hlB := hl1.chg2 (c2.tr c3) c35 (by simp)
    have l5 := c5.1
    have n4 := lt_of_get e4
    simp at l5 hcl hw
    have hnp := nrec_pos (bs := conc ls) (Nat.le_refl _)
    refine hx_range (walkA (conc ls)) (walkI c (H3.length + 3) (conc ls)) (fun j H' => j ≤ n ∧ Chg [H3.length + 1, H3.length + 2] H4 H' ∧ H'[H3.length + 1]? = some (.cells [.int .i64 j] .rw) ∧ H'[H3.length + 2]? = some (.cells [.int .i64 (pos (conc ls) j)] .rw) ∧ walkI c (H3.length + 3) (conc ls) H')
      (fun x H' => x = .exit 0 ∧ Chg [H3.length + 1, H3.length + 2] H4 H' ∧ H'[H3.length + 1]? = some (.cells [.int .i64 n] .rw)) (n := nrec (conc ls)) rfl (walk1_goes hcb (by omega) (by omega))
      (fun j Ha Hb ⟨a, b, c, d, e⟩ g => ⟨a, chg_ls b (by simp) g, get_ls c g, get_ls d g, walkI_ls e g⟩) (fun x Ha Hb ⟨a, b, c⟩ g => ⟨a, chg_ls b (by simp) g, get_ls c g⟩) (fun _ _ h => h.2.2.2.2) (fun j Ha Hb a ⟨x, e, hx⟩ g => ⟨x, e, g.sl hx⟩) (fun j Ha a ⟨x, e, hx⟩ => by rw [e]; rfl) ⟨Nat.zero_le _, .refl, p8, p9, hw⟩ ?_ ?_ ?_
    · rintro j hj Ha a _ ⟨x, rfl, hx⟩ H5 ⟨d0, d1, d2, d3, d4⟩ ⟨x', e, hx'⟩ hl1' hl0 hd
      cases e
      obtain ⟨az, cz, sz, rfl⟩ := hx'.len8
      have d7 := d1.get p7 (by simp)
      simp [as5_0, setL]
      intro ms
      by_cases hjn : j = n
      · subst hjn
        simp [bd5_0, rowOf, d2, d7]
        exact d1
      have hjn' : ¬ (j : Int) = n := by omega
      simp [bd5_0, rowOf, d2, d7, hjn']
      refine hx_drawn dc5_13 fun Hd cd _ _ => ?_
      have cdd := d1.tr cd
      rw [conc_nrec hf] at hj
      have rj := conc_rcd hf hj
      rw [rj] at hx' ⊢
      have f8 := cd.get d2 (by simp)
      have f9 := cd.get d3 (by simp)
      have f2 := cdd.get p2 (by simp; omega)
      have la := (c2.tr c3).1
      obtain ⟨b, o, cc, lr, z, ez, rr, gz, hz⟩ := (hl1.chg2 ((c2.tr c3).tr c35) cdd (by simp; omega)).get hj
      cases ez
      have tx := toStr_b8 (hx'.keep cd)
      have tz := toStr_b8 hz
      have hbj : Byt (ls.getD j []) := by
        rw [show ls.getD j [] = ls[j] by simp [hj]]
        exact hlb _ (List.getElem_mem hj)
      have q := strN_beq hbj hbj
      have hj' : (j : Int) < ls.length := by omega
      have h4 := hf.2 j hj
      have hp := conc_pos hf j (by omega)
      have hps := nrec_pos (bs := conc ls) (j := j) (by rw [conc_nrec hf]; omega)
      have wa : IntKind.i64.wrap (((ls.getD j []).length : Int) + 6) = ((ls.getD j []).length : Int) + 6 := wrap_i64 (by omega) (by omega)
      have wb : IntKind.i64.wrap ((pos (conc ls) j : Int) + (((ls.getD j []).length : Int) + 6)) = (pos (conc ls) (j + 1) : Int) := by
        simp only [pos]
        rw [conc_nxt hf hj, wrap_i64 (by omega) (by omega)]
        simp only
        omega
      have wj : IntKind.i64.wrap ((j : Int) + 1) = (j : Int) + 1 := wrap_i64 (by omega) (by omega)
      generalize ls.getD j [] = bj at *
      have k1 := lt_of_get f8
      have k2 := lt_of_get f9
      have ne1 : H3.length + 1 ≠ H3.length + 2 := by omega
      have ne2 : H3.length + 2 ≠ H3.length + 1 := by omega
      simp only at hl1' hd
      obtain ⟨hd1, hd2⟩ : H4.length + 1 < H5.length ∧ H4.length < H5.length := by
        constructor
        · rcases Nat.lt_or_ge (H4.length + 1) H5.length with h | h
          · exact h
          · rw [List.getElem?_eq_none h] at hl1'; exact hl1'.elim
        · exact lt_of_get hd
      have f8' : (Hd.set (H3.length + 2) (.cells [.int .i64 (pos (conc ls) (j + 1))] .rw))[H3.length + 1]? = some (.cells [.int .i64 j] .rw) := (Chg.set _ _ _).get f8 (by simp)
      simp [d5_13, rowOf_rw f8, rowOf_rw f9, rowOf_rw f2, rowRw_rw f9, rowOf_rw f8', rowRw_rw f8', hj, hj', rr, gz, tx, tz, q, wa, wb, wj]
      refine ⟨?_, ?_, by omega, ?_, ?_, ?_, ?_⟩
      · rw [List.getElem?_set_ne (by omega), List.getElem?_set_ne (by omega), cd.2 _ hd1 (by simp)]
      · rw [List.getElem?_set_ne (by omega), List.getElem?_set_ne (by omega), cd.2 _ hd2 (by simp)]
      · exact (cdd.trans (.set _ _ _) (by simp)).trans (.set _ _ _) (by simp)
      · rw [List.getElem?_set_self (by simpa using k1)]
      · rw [List.getElem?_set_self k2]
      · exact walkI_chg (walkI_chg (walkI_chg d4 cd (by simp) hcl) (.set _ _ _) (by simp) hcl) (.set _ _ _) (by simp) hcl
    · rintro H7 ⟨d0, d1, d2, d3, d4⟩ hd
      simp only at hd
      rw [conc_nrec hf] at d0 d2
      have hnn : n = ls.length := by omega
      have d7 := d1.get p7 (by simp)
      have d5 := d1.get p4 (by simp; omega)
      have ne : H.length + 1 ≠ H4.length := by omega
      have ne' : H4.length ≠ H.length + 1 := by omega
      simp [rowOf, rowRw, d2, d7, d5, hd, hnn, List.getElem?_set_ne ne, List.getElem?_set_ne ne', List.getElem?_set_self (lt_of_get d5)]
    · rintro x H7 _ ⟨rfl, d1, d2⟩ hd
      simp only at hd
      have d7 := d1.get p7 (by simp)
      have d5 := d1.get p4 (by simp; omega)
      have ne : H.length + 1 ≠ H4.length := by omega
      have ne' : H4.length ≠ H.length + 1 := by omega
      simp [rowOf, rowRw, d2, d7, d5, hd, List.getElem?_set_ne ne, List.getElem?_set_ne ne', List.getElem?_set_self (lt_of_get d5)]
  · simp [rowRw, rowOf, g4, g2, List.getElem?_set_self q2]
theorem frameBack_main (H : AH) (ass : List (List AV)) (hl : ass.length = [30, 5].length) (ha : ∀ (i : Nat) t al, [30, 5][i]? = some t → ass[i]? = some al → AR ap 6 H t al) :
    Hx (callA ap 20000 (.func 5 [] []) (List.zipWith (argA ap) [30, 5] ass) 0 H) fun r => r.1 = .bool true := by
  match ass, hl with
  | [a0, a1], _ =>
    obtain ⟨v0, ls, rfl, h0, hb⟩ := ar_bb (ha 0 30 a0 rfl rfl)
    obtain ⟨z, rfl, hz⟩ := ar_int (ha 1 5 a1 rfl rfl) ty5 rfl
    simp only [List.zipWith_cons_cons, List.zipWith_nil_right, argA_one ty5 rfl, argA_one ty30 rfl]
    simp [Lit.wf, IntKind.has, IntKind.min, IntKind.max, IntKind.bits, IntKind.signed] at hz
    exact frameBack_ok h0 hb (by omega)
end Go.Proofs.Ytinehdoenhodoaa.T
