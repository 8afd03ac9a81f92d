import Derived.Test.YtinehdoenhodoaaA7
/-! Whole; scans. -/
set_option linter.unusedVariables false
set_option linter.unusedSimpArgs false
set_option maxHeartbeats 4000000
set_option maxRecDepth 100000
namespace Go.Proofs.Ytinehdoenhodoaa.T.Fm
open Go Go.Ab
theorem walkI_ls {c m l : Nat} {bs : List Int} {H H' : AH} (h : walkI c m bs H) (g : Chg [] H H' ∨ LS l H H') : walkI c m bs H' := by
  obtain ⟨v, h1, h2, h3⟩ := h
  rcases g with g | g
  · exact ⟨v, g.get h1 (by simp), h2.keep g, h3⟩
  · exact ⟨v, g.get h1, g.sl h2, h3⟩
theorem walkI_chg {c m : Nat} {bs F : List _} {H H' : AH} (h : walkI c m bs H) (g : Chg F H H') (hF : ∀ i ∈ F, i < m) (hm : m ≤ c) : walkI c m bs H' := by
  obtain ⟨v, h1, h2, h3⟩ := h
  refine ⟨v, g.get h1 (fun h => ?_), h2.chg g (fun i hi h => ?_), h3⟩
  · have := hF _ h; omega
  · have := hF _ h; have := h3 i hi; omega
theorem get_ls {l b : Nat} {cs : List AV} {m : Md} {H H' : AH} (h : H[b]? = some (.cells cs m)) (g : Chg [] H H' ∨ LS l H H') : H'[b]? = some (.cells cs m) := by
  rcases g with g | g
  · exact g.get h (by simp)
  · exact g.get h
theorem chg_ls {l : Nat} {F : List Nat} {H0 H H' : AH} (h : Chg F H0 H) (hl : H0.length ≤ l) (g : Chg [] H H' ∨ LS l H H') : Chg F H0 H' := by
  rcases g with g | g
  · exact h.tr g
  · exact g.chg h hl
theorem whole_ok {H : AH} {v : AV} {bs : List Int} (h : B8 H v bs) (hb : Byt bs) (hl : bs.length ≤ 10000000000000) {k : Nat} (hk : bs.length + 40 < k) :
    Hx (callA ap k (.func 16 [] []) [v] 0 H) fun r => Chg [] H r.2 ∧ r.1 = .int .i64 (pos bs (nrec bs)) := by
  obtain ⟨k, rfl⟩ : ∃ k', k = k' + 3 := ⟨k - 3, by omega⟩
  rw [hx_go fn16 rfl, b16]
  simp [f16, b16, rowRw]
  refine Hx.mapp (walk_ok (h.keep (.app _ _)) (by omega)) ?_
  rintro ⟨g, H2⟩ ⟨hc, c, rfl, hcl, hw⟩
  simp
  have hcell : H2[H.length]? = some (.cells [.int .i64 0] .rw) := hc.get (by simp) (by simp)
  simp only at hc hw
  have hle := hc.1
  simp at hle hcl hw
  have hnp := nrec_pos (bs := bs) (Nat.le_refl _)
  refine hx_range (walkA bs) (walkI c (H.length + 1) bs) (fun j H' => Chg [H.length] H2 H' ∧ H'[H.length]? = some (.cells [.int .i64 (pos bs j)] .rw) ∧ walkI c (H.length + 1) bs H') (fun _ _ => False) (n := nrec bs) rfl (walk1_goes hb (by omega) (by omega))
    (fun j Ha Hb ⟨a, b, c⟩ g => ⟨chg_ls a (by simp) g, get_ls b g, walkI_ls c g⟩) (fun _ _ _ h => h.elim) (fun _ _ h => h.2.2) (fun j Ha Hb a ⟨x, e, hx⟩ g => ⟨x, e, g.sl hx⟩) (fun j Ha a ⟨x, e, hx⟩ => by rw [e]; rfl) ⟨.refl, hcell, hw⟩ ?_ ?_ (fun _ _ _ h => h.elim)
  · rintro j hj Ha a ⟨i1, i2, i3⟩ ⟨x, rfl, hx⟩ H1 ⟨c1, c2, c3⟩ ⟨x', e, hx'⟩ hl1 hl0 hd
    cases e
    obtain ⟨ax, cx, sx, rfl⟩ := hx'.len8
    have hok := nrec_ok hj
    simp only [okAt, beq_iff_eq] at hok
    have h3 := nxt_ok hok
    simp at h3
    have hp := nrec_pos (bs := bs) (j := j) (by omega)
    have hll : (rcd bs j).length + 6 = (nxt (bs.drop (pos bs j))).2.1 := h3.1
    have w1 : IntKind.i64.wrap ((pos bs j : Int) + ((rcd bs j).length : Int)) = (pos bs j : Int) + ((rcd bs j).length : Int) := wrap_i64 (by omega) (by omega)
    have w2 : IntKind.i64.wrap ((pos bs j : Int) + ((rcd bs j).length : Int) + 6) = (pos bs (j + 1) : Int) := by
      simp only [pos]
      rw [wrap_i64 (by omega) (by omega)]
      omega
    have hlt := lt_of_get c2
    unfold as16_0
    simp [setL]
    intro ms
    unfold bd16_0
    simp [rowRw, c2, w1, w2]
    refine ⟨?_, ?_, ?_, ?_⟩
    · rw [List.getElem?_set_ne (by omega)]
    · rw [List.getElem?_set_ne (by omega)]
    · exact c1.tr' (.set _ _ _)
    · simp [hlt]
      exact walkI_chg c3 (.set _ _ _) (by simp) hcl
  · rintro H3 ⟨c1, c2, c3⟩ hd
    simp only at hd
    simp [rowOf, c2, hd]
    refine (((Chg.app H _).tr hc).trans c1 (by simp)).trans (.set _ _ _) ?_
    simp
    omega
end Go.Proofs.Ytinehdoenhodoaa.T.Fm
