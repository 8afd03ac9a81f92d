import Derived.Test.YtinehdoenhodoaaA10
/-! FrameScans. -/
set_option linter.unusedVariables false
set_option linter.unusedSimpArgs false
set_option maxHeartbeats 4000000
set_option maxRecDepth 100000
namespace Go.Proofs.Ytinehdoenhodoaa.T
open Go Go.Ab
theorem recB_byt {b : List Int} (h : Byt b) : Byt (recB b) := ((byt_cons (wrap_u8_in _) (byt_cons (wrap_u8_in _) byt_nil)).app h).app (low4_byt _)
theorem conc_byt {ls : List (List Int)} (h : ∀ b ∈ ls, Byt b) : Byt (conc ls) := fun x hx => by
  unfold conc at hx
  obtain ⟨l, h1, h2⟩ := List.mem_flatten.1 hx
  obtain ⟨b, h3, rfl⟩ := List.mem_map.1 h1
  exact recB_byt (h b h3) x h2
theorem conc_len' {ls : List (List Int)} (hf : fitB ls) : (conc ls).length ≤ 8120 := by
  have := conc_len ls.length hf.2 (Nat.le_refl _)
  rw [List.take_length] at this
  have := hf.1
  omega
theorem frameScans_ok {H : AH} {vb vl : AV} {bs : List Int} {ls : List (List Int)} (h : B8 H vb bs) (hb : Byt bs) (hl : BB H vl ls) (hlb : ∀ b ∈ ls, Byt b) :
    Hx (callA ap 20000 (.func 4 [] []) [vb, vl] 0 H) fun r => r.1 = .bool true := by
  rw [hx_call fn4 rfl]
  obtain ⟨a, c, s, rfl⟩ := h.len8
  by_cases h1 : 1000 < bs.length
  · have h1' : 1000 < (bs.length : Int) := by omega
    simp [f4, b4, known_ok, h1']
  have h1' : ¬ 1000 < (bs.length : Int) := by omega
  simp [f4, b4, known_ok, h1']
  refine Hx.mapp (fit_ok hl (by omega)) ?_
  rintro ⟨r, H1⟩ ⟨e, ⟨hf, e2⟩ | ⟨hf, e2⟩⟩ <;> simp only at e e2 <;> subst e <;> subst e2
  · simp
    refine Hx.mapp (all_ok hl hf (by omega)) ?_
    rintro ⟨r, H2⟩ ⟨c2, t, rfl, st⟩
    simp only at c2 st
    have lt := conc_len' hf
    simp
    refine Hx.mapp (scans_ok (h.keep c2) hb (by omega) (by omega)) ?_
    rintro ⟨r, H3⟩ ⟨c3, rfl⟩
    simp only at c3
    simp
    have ow : Mine (H3 ++ [.cells [] .rw]) 1 (.slice (some (H3.length, 0)) 0 (some 0) 1) [] := Mine.new (l := []) (n := 0) (c := some 0) Nat.one_pos rfl (by simp) (by simp)
    refine Hx.mapp (ow.append ((st.keep c3).keep (.app _ _)) Nat.one_pos Nat.one_pos u8s_one (by simp [room]; omega)) ?_
    rintro ⟨x, H4⟩ ⟨mx, cx, kx⟩
    simp only at mx cx kx
    simp
    have cx' : Chg [] H3 H4 := (Chg.app _ _).trans cx (by simp)
    refine Hx.mapp (mx.append (((h.keep c2).keep c3).keep cx') Nat.one_pos Nat.one_pos u8s_one (by simp [room]; omega)) ?_
    rintro ⟨y, H5⟩ ⟨my, cy, ky⟩
    simp only at my cy ky
    simp
    have sy : B8 H5 y (conc ls ++ bs) := by
      have := my.sl
      rw [List.nil_append, ← u8s_app] at this
      exact this
    refine Hx.mapp (scans_ok sy ((conc_byt hlb).app hb) (by simp; omega) (by simp; omega)) ?_
    rintro ⟨r, H6⟩ ⟨c6, rfl⟩
    simp
  · simp
theorem frameScans_main (H : AH) (ass : List (List AV)) (hl : ass.length = [22, 30].length) (ha : ∀ (i : Nat) t al, [22, 30][i]? = some t → ass[i]? = some al → AR ap 6 H t al) :
    Hx (callA ap 20000 (.func 4 [] []) (List.zipWith (argA ap) [22, 30] ass) 0 H) fun r => r.1 = .bool true := by
  match ass, hl with
  | [a0, a1], _ =>
    obtain ⟨v0, bs, rfl, h0, hb⟩ := ar_bytes (ha 0 22 a0 rfl rfl) ty22 rfl ty5 rfl rfl
    obtain ⟨v1, ls, rfl, h1, hlb⟩ := ar_bb (ha 1 30 a1 rfl rfl)
    simp only [List.zipWith_cons_cons, List.zipWith_nil_right, argA_one ty22 rfl, argA_one ty30 rfl]
    exact frameScans_ok h0 hb h1 hlb
end Go.Proofs.Ytinehdoenhodoaa.T
