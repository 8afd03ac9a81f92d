import Derived.Test.YtinehdoenhodoaaA9
import Derived.Test.YtinehdoenhodoaaAbK
import Derived.Test.YtinehdoenhodoaaAb25
/-! fit, all. -/
set_option linter.unusedVariables false
set_option linter.unusedSimpArgs false
set_option maxHeartbeats 4000000
set_option maxRecDepth 100000
namespace Go.Proofs.Ytinehdoenhodoaa.T
open Go Go.Ab
theorem BB.form {H : AH} {v : AV} {ls : List (List Int)} (h : BB H v ls) : ∃ a c s, v = .slice a ls.length c s := by
  obtain ⟨vs, h1, h2, h3⟩ := h
  obtain ⟨a, c, s, rfl⟩ := h1.form1
  exact ⟨a, c, s, by rw [h2]⟩
theorem BB.get {H : AH} {v : AV} {ls : List (List Int)} (h : BB H v ls) {i : Nat} (hi : i < ls.length) : ∃ b o c l z, v = .slice (some (b, o)) ls.length c 1 ∧ rowOf H b = some l ∧ l[o + i]? = some z ∧ B8 H z (ls.getD i []) := by
  obtain ⟨vs, h1, h2, h3⟩ := h
  obtain ⟨b, o, c, l, rfl, r, e⟩ := h1.get1 (i := i) (by omega)
  have hz : vs[i]? = some vs[i] := List.getElem?_eq_getElem (by omega)
  exact ⟨b, o, c, l, vs[i], by rw [h2], r, by rw [e, hz], h3 i hi _ hz⟩
theorem ar_bb {m : Nat} {H : AH} {al : List AV} (h : AR ap m H 30 al) : ∃ v ls, al = [v] ∧ BB H v ls ∧ ∀ b ∈ ls, Byt b := by
  cases m with
  | zero => cases h
  | succ m =>
    obtain ⟨ti', h1, h2⟩ := h
    rw [ty30] at h1; cases h1
    rcases h2 with rfl | ⟨b, len, cap, es, te', g1, g2, rfl, g4, g5, g6, g7⟩
    · exact ⟨_, [], rfl, ⟨[], .nil _ _, rfl, by simp⟩, by simp⟩
    · rw [ty22] at g1; cases g1
      have hx : ∀ x ∈ es, ∃ v bs, x = [v] ∧ B8 H v bs ∧ Byt bs := fun x hx => ar_bytes (g7 x hx).2 ty22 rfl ty5 rfl rfl
      have hall : ∀ (es : List (List AV)), (∀ x ∈ es, ∃ v bs, x = [v] ∧ B8 H v bs ∧ Byt bs) → ∃ ls : List (List Int), es.flatten.length = ls.length ∧ (∀ i, i < ls.length → ∀ x, es.flatten[i]? = some x → B8 H x (ls.getD i [])) ∧ (∀ b ∈ ls, Byt b) ∧ ls.length = es.length := by
        intro es
        induction es with
        | nil => intro _; exact ⟨[], rfl, by simp, by simp, rfl⟩
        | cons x r ih =>
          intro hx
          obtain ⟨ls, q1, q2, q3, q4⟩ := ih fun y hy => hx y (by simp [hy])
          obtain ⟨v, bs, rfl, hv, hb⟩ := hx x (by simp)
          refine ⟨bs :: ls, by rw [List.flatten_cons]; simp only [List.length_append, List.length_cons, List.length_nil, q1]; omega, fun i hi y hy => ?_, fun b hb' => ?_, by simp [q4]⟩
          · rw [List.flatten_cons] at hy
            cases i with
            | zero => simp at hy; subst hy; simpa using hv
            | succ i => simpa using q2 i (by simpa using hi) y (by simpa using hy)
          · rcases List.mem_cons.1 hb' with rfl | hb'
            · exact hb
            · exact q3 b hb'
      obtain ⟨ls, q1, q2, q3, q4⟩ := hall es hx
      refine ⟨_, ls, rfl, ⟨es.flatten, ?_, q1, q2⟩, q3⟩
      have ht : t22.sz = 1 := rfl
      rw [ht]
      exact .at_ b 0 len (some cap) _ _ Nat.one_pos g4 (by omega) (by rw [List.drop_zero, List.take_of_length_le (by omega)]) (fun k hk => by cases hk; exact g6)
def fitB (ls : List (List Int)) : Prop := ls.length ≤ 20 ∧ ∀ i, i < ls.length → (ls.getD i []).length ≤ 400
theorem fit_ok {H : AH} {v : AV} {ls : List (List Int)} (h : BB H v ls) {k : Nat} (hk : 30 < k) :
    Hx (callA ap k (.func 13 [] []) [v] 0 H) fun r => r.2 = H ∧ ((fitB ls ∧ r.1 = .bool true) ∨ (¬ fitB ls ∧ r.1 = .bool false)) := by
  obtain ⟨k, rfl⟩ : ∃ k', k = k' + 1 := ⟨k - 1, by omega⟩
  rw [hx_call fn13 rfl]
  obtain ⟨a, c, s, rfl⟩ := h.form
  by_cases h20 : 20 < ls.length
  · have h20' : 20 < (ls.length : Int) := by omega
    simp [f13, b13, h20']
    exact fun h => absurd h.1 (by omega)
  have h20' : ¬ 20 < (ls.length : Int) := by omega
  simp [f13, b13, h20']
  refine hx_up (fun i st => st = ⟨sp 19 [(0, .slice a ls.length c s), (3, .int .i64 i)], H, []⟩ ∧ ∀ j, j < i → (ls.getD j []).length ≤ 400) ls.length ?_ ?_ (by omega) ⟨by simp [maskS], by simp⟩
  · rintro i st hi ⟨rfl, hin⟩
    obtain ⟨b, o, c', l, z, e, r, g, hz⟩ := h.get hi
    cases e
    obtain ⟨az, cz, sz, rfl⟩ := hz.len8
    have hi' : (i : Int) < ls.length := by omega
    have w : IntKind.i64.wrap ((i : Int) + 1) = (i : Int) + 1 := wrap_i64 (by omega) (by omega)
    by_cases h4 : 400 < (ls.getD i []).length
    · have h4' : 400 < ((ls.getD i []).length : Int) := by omega
      generalize hm : (ls.getD i []).length = m at *
      simp [hi', hi, r, g, h4']
      intro hf
      have := hf.2 i hi
      omega
    · have h4' : ¬ 400 < ((ls.getD i []).length : Int) := by omega
      have h4'' : (ls.getD i []).length ≤ 400 := by omega
      generalize hm : (ls.getD i []).length = m at *
      simp [hi', hi, r, g, h4', w, maskS]
      intro j hj
      by_cases hji : j = i
      · subst hji; simpa [List.getD_eq_getElem?_getD, ← hm] using h4''
      · simpa [List.getD_eq_getElem?_getD] using hin j (by omega)
  · rintro st ⟨rfl, hin⟩
    simp
    exact ⟨by omega, hin⟩
/-- All records, one behind the other. -/
def conc (ls : List (List Int)) : List Int := (ls.map recB).flatten
theorem recB_len (b : List Int) : (recB b).length = b.length + 6 := by simp [recB, hd2, low4]
theorem conc_take {ls : List (List Int)} {i : Nat} (hi : i < ls.length) : conc (ls.take (i + 1)) = conc (ls.take i) ++ recB (ls.getD i []) := by
  unfold conc
  rw [List.take_succ_eq_append_getElem hi, List.map_append, List.flatten_append]
  congr 1
  simp [hi]
theorem conc_len {ls : List (List Int)} : ∀ i, (∀ j, j < ls.length → (ls.getD j []).length ≤ 400) → i ≤ ls.length → (conc (ls.take i)).length ≤ 406 * i
  | 0, _, _ => by simp [conc]
  | i + 1, h, hi => by
    rw [conc_take (by omega), List.length_append, recB_len]
    have := conc_len i h (by omega)
    have := h i (by omega)
    omega
theorem all_ok {H : AH} {v : AV} {ls : List (List Int)} (h : BB H v ls) (hf : fitB ls) {k : Nat} (hk : 500 < k) :
    Hx (callA ap k (.func 14 [] []) [v] 0 H) fun r => Chg [] H r.2 ∧ ∃ x, r.1 = .tuple [x, .bool true] ∧ B8 r.2 x (conc ls) := by
  obtain ⟨k, rfl⟩ : ∃ k', k = k' + 1 := ⟨k - 1, by omega⟩
  rw [hx_call fn14 rfl]
  obtain ⟨a, c, s, rfl⟩ := h.form
  have h20 := hf.1
  simp [f14, b14]
  refine hx_up (fun i st => ∃ H' x, st = ⟨sp 28 [(0, .slice a ls.length c s), (4, x), (5, .int .i64 i)], H', []⟩ ∧ Chg [] H H' ∧ (∀ b ∈ blk x, H.length ≤ b) ∧ Mine H' 1 x (u8s (conc (ls.take i)))) ls.length ?_ ?_ (by omega) ⟨H, .slice none 0 (some 0) 0, by simp [maskS], .refl, by simp, by rw [List.take_zero]; exact Mine.nil _ _⟩
  · rintro i st hi ⟨H1, x, rfl, c1, fx, mx⟩
    obtain ⟨vs, sv, hvl, hve⟩ := h
    obtain ⟨b, o, c', l, z, e, r, g, hz⟩ := BB.get ⟨vs, sv.keep c1, hvl, fun j hj y hy => (hve j hj y hy).keep c1⟩ hi
    cases e
    have hi' : (i : Int) < ls.length := by omega
    have w : IntKind.i64.wrap ((i : Int) + 1) = (i : Int) + 1 := wrap_i64 (by omega) (by omega)
    have h4 := hf.2 i hi
    have hput := put_ok (k := k) (lo := 0) hz.bs h4 rfl (Nat.zero_le _) (by omega)
    have hlen := conc_len i hf.2 (by omega)
    have one : AV.one z = true ∧ ∃ a n c s, z = .slice a n c s := by obtain ⟨a, c, s, rfl⟩ := hz.len8; exact ⟨rfl, _, _, _, _, rfl⟩
    obtain ⟨one, az, nz, cz, sz, rfl⟩ := one
    generalize hb : ls.getD i [] = bi at *
    simp [hi', hi, r, g, hput]
    have ca : Chg [] H1 (H1 ++ [.cells (u8s (recB bi)) .rw, .cells (u8s (hd2 bi.length)) .rw, .cells (u8s (low4 (crcL (hd2 bi.length ++ bi)))) .rw]) := .app _ _
    refine Hx.mapp ((mx.keep ca).append (SL.mk Nat.one_pos (l := u8s (recB bi)) (by simp [rowOf]) (by simp [recB_len]) (by simp)) Nat.one_pos (by omega) (by simp) (by simp [room, recB_len]; omega)) ?_
    rintro ⟨x', H2⟩ ⟨mx', cx, kx⟩
    have l1 := c1.1
    simp only at mx' cx kx
    simp [w]
    refine ⟨H2, x', by simp [maskS], (c1.tr ca).trans cx (fun b hb => .inr (fx b hb)), fun b hb => ?_, ?_⟩
    · rcases kx b hb with hb | hb
      · exact fx b hb
      · simp at hb; omega
    · rw [conc_take hi, hb, u8s_app]
      exact mx'
  · rintro st ⟨H1, x, rfl, c1, fx, mx⟩
    rw [List.take_length] at mx
    simp
    exact ⟨c1, mx.sl⟩
end Go.Proofs.Ytinehdoenhodoaa.T
