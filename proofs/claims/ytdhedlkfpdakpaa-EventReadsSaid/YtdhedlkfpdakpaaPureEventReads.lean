/- For every row of bytes the program reads the event, or none, that the document says. No condition. -/
import Derived.Test.YtdhedlkfpdakpaaEvSpec
import Derived.Test.YtdhedlkfpdakpaaQEventReadsx
import Derived.Laws.Closers25b
namespace Go.Proofs.Ytdhedlkfpdakpaa.Pure
open Go.RowKit Go.Proofs.Ytdhedlkfpdakpaa.QEventReads Go.Proofs.YtdhedlkfpdakpaaW.PrintWords Go.Proofs.YtdhedlkfpdakpaaW.PrintLast Go.Proofs.Ytdhedlkfpdakpaa.Ev
set_option linter.unusedVariables false
set_option linter.unusedSimpArgs false
/-! What the program's events are. -/
theorem fields_ev {n : Nat} (hn : 4 ≤ n) (k : Int) : event_Fields.f n k = some (fldS k) := by
  obtain ⟨m, rfl⟩ : ∃ m, n = m + 4 := ⟨n - 4, by omega⟩
  by_cases hk : 1 ≤ k ∧ k ≤ 22
  · have h : k = 1 ∨ k = 2 ∨ k = 3 ∨ k = 4 ∨ k = 5 ∨ k = 6 ∨ k = 7 ∨ k = 8 ∨ k = 9 ∨ k = 10 ∨ k = 11 ∨ k = 12 ∨ k = 13 ∨ k = 14 ∨ k = 15 ∨ k = 16 ∨ k = 17 ∨ k = 18 ∨ k = 19 ∨ k = 20 ∨ k = 21 ∨ k = 22 := by omega
    rcases h with rfl | rfl | rfl | rfl | rfl | rfl | rfl | rfl | rfl | rfl | rfl | rfl | rfl | rfl | rfl | rfl | rfl | rfl | rfl | rfl | rfl | rfl <;> rfl
  · unfold event_Fields.f fldS
    simp only [event_Fields.j0, event_Fields.j1, event_Fields.j2, beq_iff_eq, show ¬ k = 1 by omega, show ¬ k = 2 by omega, show ¬ k = 3 by omega, show ¬ k = 4 by omega, show ¬ k = 5 by omega, show ¬ k = 6 by omega, show ¬ k = 7 by omega, show ¬ k = 8 by omega, show ¬ k = 9 by omega, show ¬ k = 10 by omega, show ¬ k = 11 by omega, show ¬ k = 12 by omega, show ¬ k = 13 by omega, show ¬ k = 14 by omega, show ¬ k = 17 by omega, show ¬ k = 19 by omega, show ¬ k = 22 by omega, if_false, or_self]
theorem get_ev (e : T8) (l : Int) : event_Get.f e.1 e.2.1 e.2.2.1 e.2.2.2.1 e.2.2.2.2.1 e.2.2.2.2.2.1 e.2.2.2.2.2.2.1 e.2.2.2.2.2.2.2 l = some (gt e l) := by
  unfold event_Get.f gt
  by_cases h1 : l = 77
  · rw [if_pos h1, if_pos h1]
  by_cases h2 : l = 65
  · rw [if_neg h1, if_neg h1, if_pos h2, if_pos h2]
  by_cases h3 : l = 73
  · rw [if_neg h1, if_neg h1, if_neg h2, if_neg h2, if_pos h3, if_pos h3]
  by_cases h4 : l = 83
  · rw [if_neg h1, if_neg h1, if_neg h2, if_neg h2, if_neg h3, if_neg h3, if_pos h4, if_pos h4]
  by_cases h5 : l = 68
  · rw [if_neg h1, if_neg h1, if_neg h2, if_neg h2, if_neg h3, if_neg h3, if_neg h4, if_neg h4, if_pos h5, if_pos h5]
  by_cases h6 : l = 81
  · rw [if_neg h1, if_neg h1, if_neg h2, if_neg h2, if_neg h3, if_neg h3, if_neg h4, if_neg h4, if_neg h5, if_neg h5, if_pos h6, if_pos h6]
  rw [if_neg h1, if_neg h1, if_neg h2, if_neg h2, if_neg h3, if_neg h3, if_neg h4, if_neg h4, if_neg h5, if_neg h5, if_neg h6, if_neg h6]
theorem with_ev (e : T8) (l v : Int) : event_With.f e.1 e.2.1 e.2.2.1 e.2.2.2.1 e.2.2.2.2.1 e.2.2.2.2.2.1 e.2.2.2.2.2.2.1 e.2.2.2.2.2.2.2 l v = some (wth e l v) := by
  unfold event_With.f wth
  by_cases h1 : l = 77
  · rw [if_pos h1, if_pos h1]
  by_cases h2 : l = 65
  · rw [if_neg h1, if_neg h1, if_pos h2, if_pos h2]
  by_cases h3 : l = 73
  · rw [if_neg h1, if_neg h1, if_neg h2, if_neg h2, if_pos h3, if_pos h3]
  by_cases h4 : l = 83
  · rw [if_neg h1, if_neg h1, if_neg h2, if_neg h2, if_neg h3, if_neg h3, if_pos h4, if_pos h4]
  by_cases h5 : l = 68
  · rw [if_neg h1, if_neg h1, if_neg h2, if_neg h2, if_neg h3, if_neg h3, if_neg h4, if_neg h4, if_pos h5, if_pos h5]
  by_cases h6 : l = 81
  · rw [if_neg h1, if_neg h1, if_neg h2, if_neg h2, if_neg h3, if_neg h3, if_neg h4, if_neg h4, if_neg h5, if_neg h5, if_pos h6, if_pos h6]
  rw [if_neg h1, if_neg h1, if_neg h2, if_neg h2, if_neg h3, if_neg h3, if_neg h4, if_neg h4, if_neg h5, if_neg h5, if_neg h6, if_neg h6]
theorem bounds_ev {n : Nat} (hn : 1 ≤ n) (k l : Int) (hl : isLetter l) : event_bounds.f n k l = some (bnd k l) := by
  obtain ⟨m, rfl⟩ : ∃ m, n = m + 1 := ⟨n - 1, by omega⟩
  rcases hl with rfl | rfl | rfl | rfl | rfl | rfl | rfl
  · rfl
  · rfl
  · rfl
  · rfl
  · rfl
  · simp only [event_bounds.f, event_bounds.j0, bnd]
    by_cases h1 : k = 6
    · subst h1; rfl
    by_cases h2 : k = 10
    · subst h2; rfl
    by_cases h3 : k = 7
    · subst h3; rfl
    by_cases h4 : k = 17
    · subst h4; rfl
    simp [h1, h2, h3, h4]
  · simp only [event_bounds.f, event_bounds.j0, bnd]
    by_cases h1 : k = 19
    · subst h1; rfl
    · simp [h1]
theorem right_loop (ls : List Int) (hl : ls.length ≤ 100) (hL : ∀ l ∈ ls, isLetter l) (e : T8) (d : Nat) : ∀ (n i : Nat) (own : T8), ls.length - i = d → i ≤ ls.length → d + 3 ≤ n →
    event_Right.l0 n ls (ls.length : Int) (i : Int) e.1 e.2.1 e.2.2.1 e.2.2.2.1 e.2.2.2.2.1 e.2.2.2.2.2.1 e.2.2.2.2.2.2.1 e.2.2.2.2.2.2.2 own.1 own.2.1 own.2.2.1 own.2.2.2.1 own.2.2.2.2.1 own.2.2.2.2.2.1 own.2.2.2.2.2.2.1 own.2.2.2.2.2.2.2 = some (rtl (ls.drop i) e own) := by
  induction d with
  | zero =>
    intro n i own hd hi hn
    obtain ⟨n, rfl⟩ : ∃ m, n = m + 1 := ⟨n - 1, by omega⟩
    have : i = ls.length := by omega
    subst this
    simp only [event_Right.l0]
    rw [if_neg (by omega), List.drop_length]
    rfl
  | succ d ih =>
    intro n i own hd hi hn
    obtain ⟨n, rfl⟩ : ∃ m, n = m + 1 := ⟨n - 1, by omega⟩
    have hlt : i < ls.length := by omega
    have hw : wrap64 ((i : Int) + 1) = ((i + 1 : Nat) : Int) := by unfold wrap64; omega
    have hle : isLetter (rd ls (i : Int)) := by rw [rd_eq hlt]; exact hL _ (List.getElem_mem hlt)
    simp only [event_Right.l0]
    rw [if_pos (by omega), if_pos (by omega), if_pos (by omega), get_ev, bounds_ev (by omega) _ _ hle, rd_drop hlt]
    simp only [bsome, rtl]
    split
    · rfl
    · split
      · rfl
      · rw [with_ev]
        simp only [bsome]
        rw [hw]
        exact ih n (i + 1) _ (by omega) (by omega) (by omega)
theorem right_ev {n : Nat} (hn : 20 ≤ n) (e : T8) : event_Right.f n e.1 e.2.1 e.2.2.1 e.2.2.2.1 e.2.2.2.2.1 e.2.2.2.2.2.1 e.2.2.2.2.2.2.1 e.2.2.2.2.2.2.2 = some (rt e) := by
  obtain ⟨n, rfl⟩ : ∃ m, n = m + 1 := ⟨n - 1, by omega⟩
  unfold event_Right.f rt
  by_cases h1 : e.1 < 1
  · rw [if_pos h1, if_pos h1]; simp [event_Right.j0]
  rw [if_neg h1, if_neg h1]
  by_cases h2 : e.1 > 22
  · rw [if_pos h2, decide_eq_true h2]; simp [event_Right.j0]
  rw [if_neg h2, decide_eq_false h2]
  simp only [event_Right.j0]
  rw [if_neg (by simp), fields_ev (by omega)]
  simp only [bsome]
  have hl := fld_len e.1
  have hs := fldS_size e.1
  rw [if_pos (by omega), fldS_bytes]
  have := right_loop (fld e.1) (by omega) (fld_letter _) e (fld e.1).length n 0 (bare e.1) (by omega) (by omega) (by omega)
  simpa [bare] using this
theorem number_loop (f : Nat) : ∀ (n : Nat) (acc : List Int) (u : Int), 0 ≤ u → u < 128 ^ (f + 1) → f + 1 ≤ n → acc.length + f + 1 ≤ 140737488355327 → event_Number.l0 n acc u = some (acc ++ vb f u) := by
  induction f with
  | zero =>
    intro n acc u h0 h1 hn ha
    obtain ⟨n, rfl⟩ : ∃ m, n = m + 1 := ⟨n - 1, by omega⟩
    simp at h1
    simp only [event_Number.l0]
    rw [if_neg (by omega), if_pos (by omega)]
    have e : u % 256 = u := by omega
    simp [vb, e]
  | succ f ih =>
    intro n acc u h0 h1 hn ha
    obtain ⟨n, rfl⟩ : ∃ m, n = m + 1 := ⟨n - 1, by omega⟩
    simp only [event_Number.l0, vb]
    have hp : (128 : Int) ^ (f + 1 + 1) = 128 ^ (f + 1) * 128 := Int.pow_succ ..
    by_cases hu : u > 127
    · rw [if_pos hu, if_pos hu, if_pos (by omega), or128, ih n _ _ (by omega) (by omega) (by omega) (by simp; omega)]
      simp
    · rw [if_neg hu, if_neg hu, if_pos (by omega)]
      have e : u % 256 = u := by omega
      rw [e]
theorem number_ev {n : Nat} (hn : 12 ≤ n) (l : List Int) (hl : l.length ≤ 100000) (v : Int) (h0 : -9223372036854775808 ≤ v) (h1 : v ≤ 9223372036854775807) : event_Number.f n l v = some (l ++ enc v) := by
  unfold event_Number.f
  have hw : wrap64 ((l.length : Int) + 10) = (l.length : Int) + 10 := by unfold wrap64; omega
  rw [hw, if_pos (by omega), if_pos (by omega)]
  simp only [bsome, List.nil_append, List.length_nil]
  rw [if_pos (by omega), zig_go v h0 h1]
  exact number_loop 9 n l (zig v) (zig_nonneg v) (by have := zig_lt v h0 h1; omega) (by omega) (by omega)
theorem put_loop (ls : List Int) (hl : ls.length ≤ 100) (e : T8) (hr : ∀ l ∈ ls, -9223372036854775808 ≤ gt e l ∧ gt e l ≤ 9223372036854775807) (d : Nat) : ∀ (n i : Nat) (acc : List Int), ls.length - i = d → i ≤ ls.length → d + 15 ≤ n → acc.length ≤ 1000 + 10 * i →
    event_Put.l0 n acc ls (ls.length : Int) (i : Int) e.1 e.2.1 e.2.2.1 e.2.2.2.1 e.2.2.2.2.1 e.2.2.2.2.2.1 e.2.2.2.2.2.2.1 e.2.2.2.2.2.2.2 = some (acc ++ evEncs (ls.drop i) e, 0) := by
  induction d with
  | zero =>
    intro n i acc hd hi hn ha
    obtain ⟨n, rfl⟩ : ∃ m, n = m + 1 := ⟨n - 1, by omega⟩
    have : i = ls.length := by omega
    subst this
    simp only [event_Put.l0]
    rw [if_neg (by omega), List.drop_length]
    simp [slices_Clip_byte_byte.f, evEncs]
  | succ d ih =>
    intro n i acc hd hi hn ha
    obtain ⟨n, rfl⟩ : ∃ m, n = m + 1 := ⟨n - 1, by omega⟩
    have hlt : i < ls.length := by omega
    have hw : wrap64 ((i : Int) + 1) = ((i + 1 : Nat) : Int) := by unfold wrap64; omega
    have hg := hr (rd ls (i : Int)) (by rw [rd_eq hlt]; exact List.getElem_mem hlt)
    have hen := (enc_len (gt e (rd ls (i : Int)))).2
    simp only [event_Put.l0]
    rw [if_pos (by omega), if_pos (by omega), if_pos (by omega), get_ev]
    simp only [bsome]
    rw [number_ev (by omega) _ (by omega) _ hg.1 hg.2, rd_drop hlt]
    simp only [bsome, evEncs]
    rw [hw, ih n (i + 1) _ (by omega) (by omega) (by omega) (by simp; omega), List.append_assoc]
theorem put_ev {n : Nat} (hn : 40 ≤ n) (e : T8) : event_Put.f n e.1 e.2.1 e.2.2.1 e.2.2.2.1 e.2.2.2.2.1 e.2.2.2.2.2.1 e.2.2.2.2.2.2.1 e.2.2.2.2.2.2.2 = some (if rt e = true then (puts e, 0) else ([], 1)) := by
  unfold event_Put.f
  rw [right_ev (by omega)]
  simp only [bsome]
  by_cases h : rt e = true
  · rw [if_pos h, if_pos h, fields_ev (by omega)]
    simp only [bsome]
    have hl := fld_len e.1
    have hs := fldS_size e.1
    have hk := rt_kind e h
    rw [if_pos (by omega), fldS_bytes]
    have := put_loop (fld e.1) (by omega) e (rt_range e h) (fld e.1).length n 0 [e.1 % 256] (by omega) (by omega) (by omega) (by simp)
    have hm : e.1 % 256 = e.1 := by omega
    rw [hm] at this ⊢
    simpa [puts] using this
  · rw [if_neg h, if_neg h]
/-! The bytes of events, read. -/
theorem take_enc (b : List Int) (hb : b.length ≤ 1000) (f : Nat) : ∀ (n i : Nat) (x u : Int) (rest : List Int), f + i = 9 → 0 ≤ u → u < pw f → x + u * pp i < 18446744073709551616 → 0 ≤ x → x < pp i → b.drop i = vb f u ++ rest → 2 * f + 3 ≤ n →
    event_Take.l0 n b x (i : Int) = some (unz (x + u * pp i), ((i + (vb f u).length : Nat) : Int)) := by
  induction f with
  | zero =>
    intro n i x u rest hf h0 h1 h2 hx0 hx1 hd hn
    obtain ⟨n, rfl⟩ : ∃ m, n = m + 2 := ⟨n - 2, by omega⟩
    have hlt : i < b.length := by
      have := congrArg List.length hd
      simp [vb] at this
      omega
    have hc : rd b (i : Int) = u := by
      rw [rd_drop hlt] at hd
      simp only [vb, List.cons_append, List.cons.injEq] at hd
      exact hd.1
    have h1' : u < 128 := h1
    have hpp := pp_pos i
    have hup : 0 ≤ u * pp i := Int.mul_nonneg h0 (by omega)
    have hm : u % 128 = u := by omega
    have hst := or_step i (by omega) (pp i) (pp_eq i) x u hx0 hx1 h0 (by omega) (by rw [hm]; omega)
    rw [hm] at hst
    have hw7 : wrap64 (7 * (i : Int)) = 7 * (i : Int) := w64 (by omega) (by omega)
    have hw1 : wrap64 ((i : Int) + 1) = ((i + 1 : Nat) : Int) := by rw [w64 (by omega) (by omega)]; omega
    simp only [event_Take.l0, event_Take.j1]
    rw [if_pos (by omega), decide_eq_true (by omega : (i : Int) < 10), if_pos rfl, if_pos (by omega), if_pos (by omega), if_pos (by rw [hw7]; omega), hc, if_pos h1', hst, unz_go _ (by omega) h2, hw1]
    rfl
  | succ f ih =>
    intro n i x u rest hf h0 h1 h2 hx0 hx1 hd hn
    have hi8 : i ≤ 8 := by clear h0 h1 h2 hx0 hx1 hd; omega
    have hf8 : f + (i + 1) = 9 := by clear h0 h1 h2 hx0 hx1 hd; omega
    have hn8 : 2 * f + 3 ≤ n - 2 := by clear h0 h1 h2 hx0 hx1 hd; omega
    rw [pw_succ] at h1
    obtain ⟨n, rfl⟩ : ∃ m, n = m + 2 := ⟨n - 2, by omega⟩
    have hlt : i < b.length := by
      have t1 := congrArg List.length hd
      have t2 := vb_pos (f + 1) u
      simp only [List.length_drop, List.length_append] at t1
      clear h0 h1 h2 hx0 hx1 hd
      omega
    have hpp := pp_pos i
    have hup : 0 ≤ u * pp i := Int.mul_nonneg h0 (by omega)
    have hw7 : wrap64 (7 * (i : Int)) = 7 * (i : Int) := by clear h0 h1 h2 hx0 hx1 hd hup hpp; exact w64 (by omega) (by omega)
    have hw1 : wrap64 ((i : Int) + 1) = ((i + 1 : Nat) : Int) := by clear h0 h1 h2 hx0 hx1 hd hup hpp; rw [w64 (by omega) (by omega)]; omega
    rw [rd_drop hlt] at hd
    have q1 : (i : Int) < (b.length : Int) := Int.ofNat_lt.2 hlt
    have q2 : (i : Int) < 10 := Int.ofNat_lt.2 (Nat.lt_of_le_of_lt hi8 (by decide))
    have q3 : 0 ≤ (i : Int) := Int.natCast_nonneg i
    have q4 : 0 ≤ wrap64 (7 * (i : Int)) := by rw [hw7]; exact Int.mul_nonneg (by decide) q3
    simp only [event_Take.l0, event_Take.j1]
    rw [if_pos q1, decide_eq_true q2, if_pos rfl, if_pos q3, if_pos q1, if_pos q4]
    simp only [vb] at hd ⊢
    by_cases hu : u > 127
    · rw [if_pos hu] at hd ⊢
      simp only [List.cons_append, List.cons.injEq] at hd
      obtain ⟨hc, hr⟩ := hd
      have hle : (u % 128) * pp i ≤ u * pp i := Int.mul_le_mul_of_nonneg_right (by omega) (by omega)
      have h5 : u % 128 * pp i ≤ 127 * pp i := Int.mul_le_mul_of_nonneg_right (by omega) (by omega)
      have hge : 0 ≤ (u % 128) * pp i := Int.mul_nonneg (by omega) (by omega)
      have hm : (u % 128 + 128) % 128 = u % 128 := by omega
      have hst := or_step i (Nat.le_trans hi8 (by decide)) (pp i) (pp_eq i) x (u % 128 + 128) hx0 hx1 (by omega) (by omega) (by rw [hm]; omega)
      rw [hm] at hst
      have hs := split7 u (pp i)
      rw [hc, if_neg (by clear h2 hs hle h5; omega), hst, hw1]
      have hp1 : pp (i + 1) = pp i * 128 := rfl
      rw [ih n (i + 1) (x + u % 128 * pp i) (u / 128) rest hf8 (by clear h2 hs hle h5; omega) (by clear h2 hs hle h5; omega) (by rw [hp1]; clear hle h5 hge h1 hx0 hx1; omega) (by clear hs hle h5 h2; omega) (by rw [hp1]; clear hs hle h2; omega) hr hn8, hp1]
      rw [show x + u % 128 * pp i + u / 128 * (pp i * 128) = x + u * pp i by omega, List.length_cons, show i + 1 + (vb f (u / 128)).length = i + ((vb f (u / 128)).length + 1) by omega]
    · rw [if_neg hu] at hd ⊢
      simp only [List.cons_append, List.cons.injEq] at hd
      obtain ⟨hc, hr⟩ := hd
      have hm : u % 128 = u := by omega
      have hst := or_step i (Nat.le_trans hi8 (by decide)) (pp i) (pp_eq i) x u hx0 hx1 h0 (by omega) (by rw [hm]; omega)
      rw [hm] at hst
      rw [hc, if_pos (by omega), hst, unz_go _ (by omega) h2, hw1]
      rfl
theorem take_ev {n : Nat} (hn : 30 ≤ n) (v : Int) (h0 : -9223372036854775808 ≤ v) (h1 : v ≤ 9223372036854775807) (rest : List Int) (hb : rest.length ≤ 900) : event_Take.f n (enc v ++ rest) = some (v, ((enc v).length : Int)) := by
  unfold event_Take.f
  have hz := zig_lt v h0 h1
  have hl := (enc_len v).2
  have := take_enc (enc v ++ rest) (by simp; omega) 9 n 0 0 (zig v) rest (by omega) (zig_nonneg v) (by rw [pw_nine]; omega) (by simp only [pp]; omega) (by omega) (by simp only [pp]; omega) rfl (by omega)
  rw [show ((0 : Nat) : Int) = 0 from rfl] at this
  rw [this]
  simp [unz_zig, enc, pp]
theorem take_any (b : List Int) (hb : b.length ≤ 1000) (d : Nat) : ∀ (n i : Nat) (x : Int), 11 - i = d → i ≤ 11 → 0 ≤ x → x < 18446744073709551616 → 2 * d + 3 ≤ n →
    ∃ r c : Int, event_Take.l0 n b x (i : Int) = some (r, c) ∧ (c = 0 ∨ (i : Int) < c ∧ c ≤ b.length) := by
  induction d with
  | zero =>
    intro n i x hd hi h0 h1 hn
    obtain ⟨n, rfl⟩ : ∃ m, n = m + 2 := ⟨n - 2, by omega⟩
    refine ⟨0, 0, ?_, .inl rfl⟩
    simp only [event_Take.l0, event_Take.j1]
    rw [decide_eq_false (by omega : ¬ (i : Int) < 10)]
    simp
  | succ d ih =>
    intro n i x hd hi h0 h1 hn
    obtain ⟨n, rfl⟩ : ∃ m, n = m + 2 := ⟨n - 2, by omega⟩
    simp only [event_Take.l0, event_Take.j1]
    by_cases hlt : (i : Int) < (b.length : Int)
    · rw [if_pos hlt]
      by_cases h10 : (i : Int) < 10
      · rw [decide_eq_true h10, if_pos rfl, if_pos (by omega), if_pos hlt, if_pos (by rw [w64 (by omega) (by omega)]; omega)]
        have e2 : wrap64 ((i : Int) + 1) = ((i + 1 : Nat) : Int) := by unfold wrap64; omega
        have hlo := Go.bits_lo_u64 .or x (shl .u64 (IntKind.u64.wrap (Go.bits .and .u8 (rd b (i : Int)) 127)) (wrap64 (7 * (i : Int))))
        have hhi := Go.bits_hi_u64 .or x (shl .u64 (IntKind.u64.wrap (Go.bits .and .u8 (rd b (i : Int)) 127)) (wrap64 (7 * (i : Int))))
        split
        · exact ⟨_, _, rfl, .inr (by rw [e2]; omega)⟩
        · rw [e2]
          obtain ⟨r, c, hr, hc⟩ := ih n (i + 1) _ (by omega) (by omega) hlo (by omega) (by omega)
          exact ⟨r, c, hr, by omega⟩
      · rw [decide_eq_false h10]
        exact ⟨0, 0, by simp, .inl rfl⟩
    · rw [if_neg hlt]
      exact ⟨0, 0, by simp, .inl rfl⟩
abbrev T9 := Int × Int × Int × Int × Int × Int × Int × Int × Int
def told (e : T8) (c : Int) : T9 := (e.1, e.2.1, e.2.2.1, e.2.2.2.1, e.2.2.2.2.1, e.2.2.2.2.2.1, e.2.2.2.2.2.2.1, e.2.2.2.2.2.2.2, c)
def bad : T9 := (0, 0, 0, 0, 0, 0, 0, 0, 13)
/-- What is told of an event that was read out of bytes. -/
noncomputable def fin (b : List Int) (e : T8) : T9 := open Classical in if rt e = true ∧ puts e = b then told e 0 else bad
theorem fin_ev {n : Nat} (hn : 40 ≤ n) (b : List Int) (hb : ∀ x ∈ b, 0 ≤ x ∧ x ≤ 255) (e : T8) :
    ((event_Put.f n e.1 e.2.1 e.2.2.1 e.2.2.2.1 e.2.2.2.2.1 e.2.2.2.2.2.1 e.2.2.2.2.2.2.1 e.2.2.2.2.2.2.2).bind fun bt176 => (if bt176.2 = 0 then ((bytes_Equal.f bt176.1 b).bind fun t180 => (if t180 = true then (some (told e 0)) else (some bad))) else (some bad))) = some (fin b e) := by
  rw [put_ev hn]
  simp only [bsome, fin]
  by_cases h : rt e = true
  · rw [if_pos h]
    simp only [if_true, bytes_Equal.f, bsome]
    have hs := strOfNums_eq (puts_byte e h) hb
    by_cases hp : puts e = b
    · rw [if_pos (hs.2 hp), if_pos ⟨h, hp⟩]
    · rw [if_neg (fun h' => hp (hs.1 h')), if_neg (fun h' => hp h'.2)]
  · rw [if_neg h, if_neg (show ¬ (([], 1) : List Int × Int).2 = 0 by decide), if_neg (fun h' => h h'.1)]
theorem read_any (b : List Int) (hb : ∀ x ∈ b, 0 ≤ x ∧ x ≤ 255) (hbl : b.length ≤ 900) (ls : List Int) (hl : ls.length ≤ 100) (d : Nat) : ∀ (n i at_ : Nat) (own : T8), ls.length - i = d → i ≤ ls.length → d + 60 ≤ n → at_ ≤ b.length →
    ∃ r, event_Read.l0 n b (at_ : Int) ls (ls.length : Int) (i : Int) own.1 own.2.1 own.2.2.1 own.2.2.2.1 own.2.2.2.2.1 own.2.2.2.2.2.1 own.2.2.2.2.2.2.1 own.2.2.2.2.2.2.2 = some r ∧ (r = bad ∨ ∃ e : T8, e.1 = own.1 ∧ r = fin b e) := by
  induction d with
  | zero =>
    intro n i at_ own hd hi hn ha
    obtain ⟨n, rfl⟩ : ∃ m, n = m + 1 := ⟨n - 1, by omega⟩
    have : i = ls.length := by omega
    subst this
    simp only [event_Read.l0]
    rw [if_neg (by omega)]
    exact ⟨_, fin_ev (by omega) b hb own, .inr ⟨own, rfl, rfl⟩⟩
  | succ d ih =>
    intro n i at_ own hd hi hn ha
    obtain ⟨n, rfl⟩ : ∃ m, n = m + 1 := ⟨n - 1, by omega⟩
    have hlt : i < ls.length := by omega
    have hw : wrap64 ((i : Int) + 1) = ((i + 1 : Nat) : Int) := by unfold wrap64; omega
    simp only [event_Read.l0]
    rw [if_pos (by omega), if_pos (by omega), if_pos (by omega), if_pos (by omega), if_pos (by omega)]
    rw [Int.toNat_natCast]
    obtain ⟨r, c, hr, hc⟩ := take_any (b.drop at_) (by simp; omega) 11 n 0 0 (by omega) (by omega) (by omega) (by omega) (by omega)
    have hf : event_Take.f n (b.drop at_) = some (r, c) := hr
    rw [hf]
    simp only [bsome]
    by_cases h0 : c = 0
    · rw [if_pos h0]
      exact ⟨_, rfl, .inl rfl⟩
    · rw [if_neg h0, with_ev]
      simp only [bsome]
      have hc' : 0 < c ∧ c ≤ (b.length - at_ : Nat) := by
        rcases hc with hc | hc
        · exact absurd hc h0
        · simp at hc; omega
      have hw2 : wrap64 ((at_ : Int) + c) = ((at_ + c.toNat : Nat) : Int) := by unfold wrap64; omega
      rw [hw, hw2]
      obtain ⟨q, hq, hs⟩ := ih n (i + 1) (at_ + c.toNat) (wth own (rd ls (i : Int)) r) (by omega) (by omega) (by omega) (by omega)
      refine ⟨q, hq, ?_⟩
      rcases hs with hs | ⟨e, he, hs⟩
      · exact .inl hs
      · exact .inr ⟨e, by rw [he, wth_kind], hs⟩
theorem read_is (b : List Int) (hb : ∀ x ∈ b, 0 ≤ x ∧ x ≤ 255) (hbl : b.length ≤ 900) (e : T8) (he : rt e = true) (hp : puts e = b) (ls : List Int) (hl : ls.length ≤ 100) (hr : ∀ l ∈ ls, -9223372036854775808 ≤ gt e l ∧ gt e l ≤ 9223372036854775807) (d : Nat) :
    ∀ (n i at_ : Nat) (own : T8), ls.length - i = d → i ≤ ls.length → d + 60 ≤ n → at_ ≤ b.length → b.drop at_ = evEncs (ls.drop i) e → fill (ls.drop i) e own = e →
    event_Read.l0 n b (at_ : Int) ls (ls.length : Int) (i : Int) own.1 own.2.1 own.2.2.1 own.2.2.2.1 own.2.2.2.2.1 own.2.2.2.2.2.1 own.2.2.2.2.2.2.1 own.2.2.2.2.2.2.2 = some (told e 0) := by
  induction d with
  | zero =>
    intro n i at_ own hd hi hn ha hb2 hfl
    obtain ⟨n, rfl⟩ : ∃ m, n = m + 1 := ⟨n - 1, by omega⟩
    have : i = ls.length := by omega
    subst this
    simp only [event_Read.l0]
    rw [if_neg (by omega)]
    rw [List.drop_length] at hfl
    have hoe : own = e := hfl
    subst hoe
    rw [show some (told own 0) = some (fin b own) by unfold fin; rw [if_pos ⟨he, hp⟩]]
    exact fin_ev (by omega) b hb own
  | succ d ih =>
    intro n i at_ own hd hi hn ha hb2 hfl
    obtain ⟨n, rfl⟩ : ∃ m, n = m + 1 := ⟨n - 1, by omega⟩
    have hlt : i < ls.length := by omega
    have hw : wrap64 ((i : Int) + 1) = ((i + 1 : Nat) : Int) := by unfold wrap64; omega
    have hg := hr (rd ls (i : Int)) (by rw [rd_eq hlt]; exact List.getElem_mem hlt)
    simp only [event_Read.l0]
    rw [if_pos (by omega), if_pos (by omega), if_pos (by omega), if_pos (by omega), if_pos (by omega)]
    rw [Int.toNat_natCast]
    rw [rd_drop hlt] at hb2 hfl
    simp only [evEncs, fill] at hb2 hfl
    have hlen := congrArg List.length hb2
    simp at hlen
    have hpos := (enc_len (gt e (rd ls (i : Int)))).1
    rw [hb2, take_ev (by omega) _ hg.1 hg.2 _ (by omega)]
    simp only [bsome]
    rw [if_neg (by omega), with_ev]
    simp only [bsome]
    have hw2 : wrap64 ((at_ : Int) + ((enc (gt e (rd ls (i : Int)))).length : Int)) = ((at_ + (enc (gt e (rd ls (i : Int)))).length : Nat) : Int) := by unfold wrap64; omega
    rw [hw, hw2]
    have g1 : ls.length - (i + 1) = d := by clear hlen hg hw2 hw; omega
    have g2 : d + 60 ≤ n := by clear hlen hg hw2 hw; omega
    have g3 : at_ + (enc (gt e (rd ls (i : Int)))).length ≤ b.length := by clear hg hw2 hw; omega
    have g4 : b.drop (at_ + (enc (gt e (rd ls (i : Int)))).length) = evEncs (ls.drop (i + 1)) e := by rw [← List.drop_drop, hb2, List.drop_left]
    exact ih n (i + 1) _ (wth own (rd ls (i : Int)) (gt e (rd ls (i : Int)))) g1 hlt g2 g3 g4 hfl
theorem read_yes {n : Nat} (hn : 100 ≤ n) (e : T8) (he : rt e = true) (hb : (puts e).length ≤ 900) : event_Read.f n (puts e) = some (told e 0) := by
  unfold event_Read.f
  have hk := rt_kind e he
  have h0 : ((puts e).length : Int) ≠ 0 := by simp [puts]; omega
  have hr0 : rd (puts e) 0 = e.1 := by simp [puts, rd]
  rw [if_neg h0, if_pos (by omega), hr0]
  have hw : wrap64 e.1 = e.1 := by unfold wrap64; omega
  rw [hw, fields_ev (by omega)]
  simp only [bsome]
  have hl := fld_len e.1
  have hs := fldS_size e.1
  rw [if_pos (by omega), fldS_bytes]
  have := read_is (puts e) (puts_byte e he) hb e he rfl (fld e.1) (by omega) (rt_range e he) (fld e.1).length n 0 1 (bare e.1) (by omega) (by omega) (by omega) (by simp [puts]) (by simp [puts]) (by simpa using (rt_all e he).2)
  simpa [bare] using this
theorem read_no {n : Nat} (hn : 100 ≤ n) (b : List Int) (hb : ∀ x ∈ b, 0 ≤ x ∧ x ≤ 255) (hbl : b.length ≤ 900) (h : ∀ e, rt e = true → puts e ≠ b) : event_Read.f n b = some bad := by
  unfold event_Read.f
  by_cases h0 : (b.length : Int) = 0
  · rw [if_pos h0]; rfl
  rw [if_neg h0, if_pos (by omega)]
  have hlt : 0 < b.length := by omega
  have hbyte : 0 ≤ rd b 0 ∧ rd b 0 ≤ 255 := by
    have := rd_eq hlt
    rw [show ((0 : Nat) : Int) = 0 from rfl] at this
    rw [this]; exact hb _ (List.getElem_mem hlt)
  have hw : wrap64 (rd b 0) = rd b 0 := by unfold wrap64; omega
  rw [hw, fields_ev (by omega)]
  simp only [bsome]
  have hl := fld_len (rd b 0)
  have hs := fldS_size (rd b 0)
  rw [if_pos (by omega), fldS_bytes]
  obtain ⟨r, hr, hs⟩ := read_any b hb hbl (fld (rd b 0)) (by omega) (fld (rd b 0)).length n 0 1 (bare (rd b 0)) (by omega) (by omega) (by omega) (by omega)
  have hr' : event_Read.l0 n b 1 (fld (rd b 0)) ((fld (rd b 0)).length : Int) 0 (rd b 0) 0 0 0 0 0 0 0 = some r := by simpa [bare] using hr
  rw [hr']
  rcases hs with hs | ⟨e, _, hs⟩
  · rw [hs]
  · rw [hs]
    unfold fin
    rw [if_neg (fun h' => h e h'.1 h'.2)]
/-! What the reference's events are. -/
theorem rfields_ev {n : Nat} (hn : 4 ≤ n) (k : Int) : novationref4_Fields.f n k = some (fldS k) := by
  obtain ⟨m, rfl⟩ : ∃ m, n = m + 4 := ⟨n - 4, by omega⟩
  by_cases hk : 1 ≤ k ∧ k ≤ 22
  · have h : k = 1 ∨ k = 2 ∨ k = 3 ∨ k = 4 ∨ k = 5 ∨ k = 6 ∨ k = 7 ∨ k = 8 ∨ k = 9 ∨ k = 10 ∨ k = 11 ∨ k = 12 ∨ k = 13 ∨ k = 14 ∨ k = 15 ∨ k = 16 ∨ k = 17 ∨ k = 18 ∨ k = 19 ∨ k = 20 ∨ k = 21 ∨ k = 22 := by omega
    rcases h with rfl | rfl | rfl | rfl | rfl | rfl | rfl | rfl | rfl | rfl | rfl | rfl | rfl | rfl | rfl | rfl | rfl | rfl | rfl | rfl | rfl | rfl <;> rfl
  · unfold novationref4_Fields.f fldS
    simp only [novationref4_Fields.j0, novationref4_Fields.j1, novationref4_Fields.j2, beq_iff_eq, show ¬ k = 1 by omega, show ¬ k = 2 by omega, show ¬ k = 3 by omega, show ¬ k = 4 by omega, show ¬ k = 5 by omega, show ¬ k = 6 by omega, show ¬ k = 7 by omega, show ¬ k = 8 by omega, show ¬ k = 9 by omega, show ¬ k = 10 by omega, show ¬ k = 11 by omega, show ¬ k = 12 by omega, show ¬ k = 13 by omega, show ¬ k = 14 by omega, show ¬ k = 17 by omega, show ¬ k = 19 by omega, show ¬ k = 22 by omega, if_false, or_self]
theorem value_ev (e : T8) (l : Int) : novationref4_value.f e.1 e.2.1 e.2.2.1 e.2.2.2.1 e.2.2.2.2.1 e.2.2.2.2.2.1 e.2.2.2.2.2.2.1 e.2.2.2.2.2.2.2 l = some (gt e l) := by
  unfold novationref4_value.f gt
  by_cases h1 : l = 77
  · rw [if_pos h1, if_pos h1]
  by_cases h2 : l = 65
  · rw [if_neg h1, if_neg h1, if_pos h2, if_pos h2]
  by_cases h3 : l = 73
  · rw [if_neg h1, if_neg h1, if_neg h2, if_neg h2, if_pos h3, if_pos h3]
  by_cases h4 : l = 83
  · rw [if_neg h1, if_neg h1, if_neg h2, if_neg h2, if_neg h3, if_neg h3, if_pos h4, if_pos h4]
  by_cases h5 : l = 68
  · rw [if_neg h1, if_neg h1, if_neg h2, if_neg h2, if_neg h3, if_neg h3, if_neg h4, if_neg h4, if_pos h5, if_pos h5]
  by_cases h6 : l = 81
  · rw [if_neg h1, if_neg h1, if_neg h2, if_neg h2, if_neg h3, if_neg h3, if_neg h4, if_neg h4, if_neg h5, if_neg h5, if_pos h6, if_pos h6]
  rw [if_neg h1, if_neg h1, if_neg h2, if_neg h2, if_neg h3, if_neg h3, if_neg h4, if_neg h4, if_neg h5, if_neg h5, if_neg h6, if_neg h6]
theorem rwith_ev (e : T8) (l v : Int) : novationref4_with.f e.1 e.2.1 e.2.2.1 e.2.2.2.1 e.2.2.2.2.1 e.2.2.2.2.2.1 e.2.2.2.2.2.2.1 e.2.2.2.2.2.2.2 l v = some (wth e l v) := by
  unfold novationref4_with.f wth
  by_cases h1 : l = 77
  · rw [if_pos h1, if_pos h1]
  by_cases h2 : l = 65
  · rw [if_neg h1, if_neg h1, if_pos h2, if_pos h2]
  by_cases h3 : l = 73
  · rw [if_neg h1, if_neg h1, if_neg h2, if_neg h2, if_pos h3, if_pos h3]
  by_cases h4 : l = 83
  · rw [if_neg h1, if_neg h1, if_neg h2, if_neg h2, if_neg h3, if_neg h3, if_pos h4, if_pos h4]
  by_cases h5 : l = 68
  · rw [if_neg h1, if_neg h1, if_neg h2, if_neg h2, if_neg h3, if_neg h3, if_neg h4, if_neg h4, if_pos h5, if_pos h5]
  by_cases h6 : l = 81
  · rw [if_neg h1, if_neg h1, if_neg h2, if_neg h2, if_neg h3, if_neg h3, if_neg h4, if_neg h4, if_neg h5, if_neg h5, if_pos h6, if_pos h6]
  rw [if_neg h1, if_neg h1, if_neg h2, if_neg h2, if_neg h3, if_neg h3, if_neg h4, if_neg h4, if_neg h5, if_neg h5, if_neg h6, if_neg h6]
theorem rbounds_ev {n : Nat} (hn : 1 ≤ n) (k l : Int) (hl : isLetter l) : novationref4_bounds.f n k l = some (bnd k l) := by
  obtain ⟨m, rfl⟩ : ∃ m, n = m + 1 := ⟨n - 1, by omega⟩
  rcases hl with rfl | rfl | rfl | rfl | rfl | rfl | rfl
  · rfl
  · rfl
  · rfl
  · rfl
  · rfl
  · simp only [novationref4_bounds.f, novationref4_quantities.f, novationref4_quantities.j0, bnd]
    by_cases h1 : k = 6
    · subst h1; rfl
    by_cases h2 : k = 10
    · subst h2; rfl
    by_cases h3 : k = 7
    · subst h3; rfl
    by_cases h4 : k = 17
    · subst h4; rfl
    simp [h1, h2, h3, h4]
  · simp only [novationref4_bounds.f, novationref4_prices.f, bnd]
    by_cases h1 : k = 19
    · subst h1; rfl
    · simp [h1]
theorem rright_loop (s : ByteArray) (hs : s.size ≤ 100) (hL : ∀ l ∈ bytesOf s, isLetter l) (e : T8) (d : Nat) : ∀ (n i : Nat) (own : T8), s.size - i = d → i ≤ s.size → d + 3 ≤ n →
    novationref4_Right.l0 n s (i : Int) e.1 e.2.1 e.2.2.1 e.2.2.2.1 e.2.2.2.2.1 e.2.2.2.2.2.1 e.2.2.2.2.2.2.1 e.2.2.2.2.2.2.2 own.1 own.2.1 own.2.2.1 own.2.2.2.1 own.2.2.2.2.1 own.2.2.2.2.2.1 own.2.2.2.2.2.2.1 own.2.2.2.2.2.2.2 = some (rtl ((bytesOf s).drop i) e own) := by
  have hlen := bytesOf_length s
  induction d with
  | zero =>
    intro n i own hd hi hn
    obtain ⟨n, rfl⟩ : ∃ m, n = m + 1 := ⟨n - 1, by omega⟩
    have : i = s.size := by omega
    subst this
    simp only [novationref4_Right.l0]
    rw [if_neg (by omega), ← hlen, List.drop_length]
    rfl
  | succ d ih =>
    intro n i own hd hi hn
    obtain ⟨n, rfl⟩ : ∃ m, n = m + 1 := ⟨n - 1, by omega⟩
    have hlt : i < (bytesOf s).length := by omega
    have hw : wrap64 ((i : Int) + 1) = ((i + 1 : Nat) : Int) := by unfold wrap64; omega
    have hle : isLetter (bt s (i : Int)) := by rw [← rd_bytesOf, rd_eq hlt]; exact hL _ (List.getElem_mem hlt)
    simp only [novationref4_Right.l0]
    rw [if_pos (by omega), if_pos (by omega), rbounds_ev (by omega) _ _ hle, rd_drop hlt, rd_bytesOf]
    simp only [bsome, rtl]
    rw [value_ev]
    simp only [bsome]
    split
    · rfl
    · split
      · rfl
      · rw [rwith_ev]
        simp only [bsome]
        rw [hw]
        exact ih n (i + 1) _ (by omega) (by omega) (by omega)
theorem rright_ev {n : Nat} (hn : 20 ≤ n) (e : T8) : novationref4_Right.f n e.1 e.2.1 e.2.2.1 e.2.2.2.1 e.2.2.2.2.1 e.2.2.2.2.2.1 e.2.2.2.2.2.2.1 e.2.2.2.2.2.2.2 = some (rt e) := by
  unfold novationref4_Right.f rt novationref4_Kind.f
  by_cases h1 : e.1 < 1
  · rw [if_neg (by omega), if_pos h1]; rfl
  rw [if_pos (by omega), if_neg h1]
  by_cases h2 : e.1 > 22
  · rw [if_pos h2, decide_eq_false (by omega)]; rfl
  rw [if_neg h2, decide_eq_true (by omega)]
  simp only [bsome]
  rw [if_pos trivial, rfields_ev (by omega)]
  simp only [bsome]
  have hl := fld_len e.1
  have hs := fldS_size e.1
  have := rright_loop (fldS e.1) (by omega) (by rw [fldS_bytes]; exact fld_letter _) e (fldS e.1).size n 0 (bare e.1) (by omega) (by omega) (by omega)
  rw [fldS_bytes] at this
  simpa [bare] using this
theorem unz_ref_odd (v : Int) (h0 : 0 ≤ v) (h1 : v < 18446744073709551616) (h : v % 2 = 1) : wrap64 ((wrap64 (-(wrap64 (v / 2)))) - 1) = unz v := by
  rw [w64 (x := v / 2) (by omega) (by omega), w64 (x := -(v / 2)) (by omega) (by omega), w64 (by omega) (by omega)]
  unfold unz; rw [if_neg (by omega)]
theorem unz_ref_even (v : Int) (h0 : 0 ≤ v) (h1 : v < 18446744073709551616) (h : v % 2 ≠ 1) : wrap64 (v / 2) = unz v := by
  rw [w64 (x := v / 2) (by omega) (by omega)]
  unfold unz; rw [if_pos (by omega)]
/-- One byte of the reference's number, behind its tests: no number, the number's end, or onward. -/
theorem number_step (b : List Int) (hb : b.length ≤ 1000) (at_ : Nat) (n i : Nat) (hi : i ≤ 9) (x : Int) (hlt : at_ + i < b.length) (c : Int) (hc : rd b ((at_ + i : Nat) : Int) = c) (hc0 : 0 ≤ c) (hc1 : c ≤ 255) (hx0 : 0 ≤ x) (hx1 : x < pp i) :
    (i = 9 ∧ c > 1 ∨ c = 0 ∧ 0 < i → novationref4_number.l0 (n + 3) b (at_ : Int) x (i : Int) = some (0, -1)) ∧
    (¬ (i = 9 ∧ c > 1 ∨ c = 0 ∧ 0 < i) → c < 128 → novationref4_number.l0 (n + 3) b (at_ : Int) x (i : Int) = some (unz (x + c * pp i), ((at_ + i + 1 : Nat) : Int))) ∧
    (¬ (i = 9 ∧ c > 1 ∨ c = 0 ∧ 0 < i) → 128 ≤ c → novationref4_number.l0 (n + 3) b (at_ : Int) x (i : Int) = novationref4_number.l0 n b (at_ : Int) (x + c % 128 * pp i) ((i + 1 : Nat) : Int)) := by
  have hw : wrap64 ((at_ : Int) + (i : Int)) = ((at_ + i : Nat) : Int) := by rw [w64 (by omega) (by omega)]; omega
  have hw1 : wrap64 ((i : Int) + 1) = ((i + 1 : Nat) : Int) := by rw [w64 (by omega) (by omega)]; omega
  have hw2 : wrap64 (((at_ + i : Nat) : Int) + 1) = ((at_ + i + 1 : Nat) : Int) := by rw [w64 (by omega) (by omega)]; omega
  have hw7 : 0 ≤ wrap64 (7 * (i : Int)) := by rw [w64 (by omega) (by omega)]; omega
  have g1 : (i : Int) < 10 := by omega
  have g2 : ((at_ + i : Nat) : Int) < (b.length : Int) := by omega
  have g3 : 0 ≤ ((at_ + i : Nat) : Int) := by omega
  have hst : ¬ (i = 9 ∧ c > 1) → c % 128 * pp i < 18446744073709551616 := by
    intro h
    by_cases h9 : i = 9
    · have hc2 : c = 0 ∨ c = 1 := by omega
      subst h9
      rcases hc2 with rfl | rfl <;> decide
    · have h8 : i = 0 ∨ i = 1 ∨ i = 2 ∨ i = 3 ∨ i = 4 ∨ i = 5 ∨ i = 6 ∨ i = 7 ∨ i = 8 := by omega
      have hm : c % 128 * pp i ≤ 127 * pp i := Int.mul_le_mul_of_nonneg_right (by omega) (Int.le_of_lt (pp_pos i))
      have hb2 : 127 * pp i < 18446744073709551616 := by rcases h8 with rfl | rfl | rfl | rfl | rfl | rfl | rfl | rfl | rfl <;> decide
      omega
  have hvlt : ¬ (i = 9 ∧ c > 1) → x + c % 128 * pp i < 18446744073709551616 := by
    intro h
    by_cases h9 : i = 9
    · have hc2 : c = 0 ∨ c = 1 := by omega
      subst h9
      have h99 : pp 9 = 9223372036854775808 := by decide
      rw [h99] at hx1 ⊢
      rcases hc2 with rfl | rfl <;> omega
    · have h8 : i = 0 ∨ i = 1 ∨ i = 2 ∨ i = 3 ∨ i = 4 ∨ i = 5 ∨ i = 6 ∨ i = 7 ∨ i = 8 := by omega
      have hm : c % 128 * pp i ≤ 127 * pp i := Int.mul_le_mul_of_nonneg_right (by omega) (Int.le_of_lt (pp_pos i))
      have hb2 : 128 * pp i < 18446744073709551616 := by rcases h8 with rfl | rfl | rfl | rfl | rfl | rfl | rfl | rfl | rfl <;> decide
      omega
  have onward : ¬ (i = 9 ∧ c > 1 ∨ c = 0 ∧ 0 < i) → novationref4_number.l0 (n + 3) b (at_ : Int) x (i : Int) = novationref4_number.j2 (n + 1) b (at_ : Int) x (i : Int) c false := by
    intro h
    simp only [novationref4_number.l0, novationref4_number.j1]
    rw [if_pos g1, hw, decide_eq_true g2, if_pos rfl, if_pos g3, if_pos g2, hc]
    by_cases h9 : (i : Int) = 9
    · rw [if_pos h9, if_neg (by omega), if_neg (by omega)]
    · rw [if_neg h9]
      by_cases h0 : c = 0
      · rw [if_pos h0, decide_eq_false (by omega)]
      · rw [if_neg h0]
  refine ⟨fun h => ?_, fun h h128 => ?_, fun h h128 => ?_⟩
  · simp only [novationref4_number.l0, novationref4_number.j1]
    rw [if_pos g1, hw, decide_eq_true g2, if_pos rfl, if_pos g3, if_pos g2, hc]
    by_cases h9 : (i : Int) = 9
    · rw [if_pos h9]
      by_cases h1 : c > 1
      · rw [if_pos h1]; simp [novationref4_number.j2]
      · have h0 : c = 0 := by omega
        rw [if_neg h1, if_pos h0, decide_eq_true (by omega)]; simp [novationref4_number.j2]
    · have h0 : c = 0 := by omega
      rw [if_neg h9, if_pos h0, decide_eq_true (by omega)]; simp [novationref4_number.j2]
  · have h9 : ¬ (i = 9 ∧ c > 1) := fun h' => h (.inl h')
    have hs := or_step i hi (pp i) (pp_eq i) x c hx0 hx1 hc0 hc1 (hst h9)
    have hv := hvlt h9
    have hm : c % 128 = c := by omega
    have hpos : 0 ≤ c % 128 * pp i := Int.mul_nonneg (by omega) (Int.le_of_lt (pp_pos i))
    rw [onward h]
    simp only [novationref4_number.j2]
    rw [if_neg (by simp), if_pos hw7, if_pos h128, hs, and1_u64 _ (by omega) hv, hw, hw2]
    rw [hm] at hv hpos ⊢
    by_cases ho : (x + c * pp i) % 2 = 1
    · rw [if_pos ho, unz_ref_odd _ (by omega) hv ho]
    · rw [if_neg ho, unz_ref_even _ (by omega) hv ho]
  · have h9 : ¬ (i = 9 ∧ c > 1) := fun h' => h (.inl h')
    have hs := or_step i hi (pp i) (pp_eq i) x c hx0 hx1 hc0 hc1 (hst h9)
    rw [onward h]
    simp only [novationref4_number.j2]
    rw [if_neg (by simp), if_pos hw7, if_neg (by omega), hs, hw1]
theorem number_enc (b : List Int) (hb : b.length ≤ 1000) (at_ : Nat) (f : Nat) : ∀ (n i : Nat) (x u : Int) (rest : List Int), f + i = 9 → 0 ≤ u → u < pw f → (0 < i → 0 < u) → x + u * pp i < 18446744073709551616 → 0 ≤ x → x < pp i → b.drop (at_ + i) = vb f u ++ rest → at_ ≤ 900 → 3 * f + 3 ≤ n →
    novationref4_number.l0 n b (at_ : Int) x (i : Int) = some (unz (x + u * pp i), ((at_ + i + (vb f u).length : Nat) : Int)) := by
  induction f with
  | zero =>
    intro n i x u rest hf h0 h1 hz h2 hx0 hx1 hd ha hn
    obtain ⟨n, rfl⟩ : ∃ m, n = m + 3 := ⟨n - 3, by omega⟩
    have hi9 : i = 9 := by clear h0 h1 h2 hx0 hx1 hd hz; omega
    have hlt : at_ + i < b.length := by
      have t1 := congrArg List.length hd
      simp only [List.length_drop, List.length_append, vb, List.length_singleton] at t1
      clear h0 h1 h2 hx0 hx1 hd hz
      omega
    rw [rd_drop hlt] at hd
    simp only [vb, List.cons_append, List.cons.injEq] at hd
    have h1' : u < 128 := h1
    have hu1 : u ≤ 1 := by
      subst hi9
      have h99 : pp 9 = 9223372036854775808 := by decide
      rw [h99] at h2
      clear hd h1 hx1
      omega
    have hc := (number_step b hb at_ n i (by omega) x hlt u hd.1 h0 (by omega) hx0 hx1).2.1 (by have := hz (by omega); omega) h1'
    rw [hc]
    rfl
  | succ f ih =>
    intro n i x u rest hf h0 h1 hz h2 hx0 hx1 hd ha hn
    have hi8 : i ≤ 8 := by clear h0 h1 h2 hx0 hx1 hd hz; omega
    have hf8 : f + (i + 1) = 9 := by clear h0 h1 h2 hx0 hx1 hd hz; omega
    have hn8 : 3 * f + 3 ≤ n - 3 := by clear h0 h1 h2 hx0 hx1 hd hz; omega
    rw [pw_succ] at h1
    obtain ⟨n, rfl⟩ : ∃ m, n = m + 3 := ⟨n - 3, by clear h0 h1 h2 hx0 hx1 hd hz; omega⟩
    have hlt : at_ + i < b.length := by
      have t1 := congrArg List.length hd
      have t2 := vb_pos (f + 1) u
      simp only [List.length_drop, List.length_append] at t1
      clear h0 h1 h2 hx0 hx1 hd hz
      omega
    have hpp := pp_pos i
    rw [rd_drop hlt] at hd
    simp only [vb] at hd ⊢
    by_cases hu : u > 127
    · rw [if_pos hu] at hd ⊢
      simp only [List.cons_append, List.cons.injEq] at hd
      obtain ⟨hc, hr⟩ := hd
      have hm : (u % 128 + 128) % 128 = u % 128 := by omega
      have hs := split7 u (pp i)
      have hp1 : pp (i + 1) = pp i * 128 := rfl
      have h5 : u % 128 * pp i ≤ 127 * pp i := Int.mul_le_mul_of_nonneg_right (by omega) (by omega)
      have hge : 0 ≤ (u % 128) * pp i := Int.mul_nonneg (by omega) (by omega)
      have hst := (number_step b hb at_ n i (Nat.le_trans hi8 (by decide)) x hlt (u % 128 + 128) hc (by omega) (by omega) hx0 hx1).2.2 (by omega) (by omega)
      rw [hst, hm]
      rw [ih n (i + 1) (x + u % 128 * pp i) (u / 128) rest hf8 (by omega) (by clear h2 hs h5; omega) (fun _ => by clear h2 hs h5; omega) (by rw [hp1]; clear h5 hge h1 hx0 hx1; omega) (by clear hs h5 h2; omega) (by rw [hp1]; clear hs h2; omega) hr ha hn8, hp1]
      rw [show x + u % 128 * pp i + u / 128 * (pp i * 128) = x + u * pp i by omega, List.length_cons, show at_ + (i + 1) + (vb f (u / 128)).length = at_ + i + ((vb f (u / 128)).length + 1) by omega]
    · rw [if_neg hu] at hd ⊢
      simp only [List.cons_append, List.cons.injEq] at hd
      have hst := (number_step b hb at_ n i (Nat.le_trans hi8 (by decide)) x hlt u hd.1 h0 (by omega) hx0 hx1).2.1 (fun h => by clear h2 h1 hx0 hx1; rcases h with h | h; omega; have := hz h.2; omega) (by omega)
      rw [hst]
      rfl
theorem rnumber_ev {n : Nat} (hn : 40 ≤ n) (b : List Int) (hb : b.length ≤ 1000) (at_ : Nat) (ha : at_ ≤ 900) (v : Int) (h0 : -9223372036854775808 ≤ v) (h1 : v ≤ 9223372036854775807) (rest : List Int) (hd : b.drop at_ = enc v ++ rest) :
    novationref4_number.f n b (at_ : Int) = some (v, ((at_ + (enc v).length : Nat) : Int)) := by
  unfold novationref4_number.f
  have hz := zig_lt v h0 h1
  have := number_enc b hb at_ 9 n 0 0 (zig v) rest (by omega) (zig_nonneg v) (by rw [pw_nine]; omega) (by omega) (by simp only [pp]; omega) (by omega) (by simp only [pp]; omega) hd ha (by omega)
  rw [show ((0 : Nat) : Int) = 0 from rfl] at this
  rw [this]
  simp [unz_zig, enc, pp]
/-- What the reference reads as a number is one's own bytes. -/
theorem number_any (b : List Int) (hB : ∀ x ∈ b, 0 ≤ x ∧ x ≤ 255) (hb : b.length ≤ 1000) (at_ : Nat) (f : Nat) : ∀ (n i : Nat) (x : Int), f + i = 9 → 0 ≤ x → x < pp i → at_ + i ≤ b.length + 10 → at_ ≤ 1000 → 3 * f + 4 ≤ n →
    novationref4_number.l0 n b (at_ : Int) x (i : Int) = some (0, -1) ∨ ∃ (u : Int) (nx : Nat), novationref4_number.l0 n b (at_ : Int) x (i : Int) = some (unz (x + u * pp i), (nx : Int)) ∧ 0 ≤ u ∧ (0 < i → 0 < u) ∧ b.drop (at_ + i) = vb f u ++ b.drop nx ∧ at_ + i < nx ∧ nx ≤ b.length := by
  induction f with
  | zero =>
    intro n i x hf hx0 hx1 hl ha hn
    obtain ⟨n, rfl⟩ : ∃ m, n = m + 3 := ⟨n - 3, by omega⟩
    by_cases hlt : at_ + i < b.length
    · have hc := hB _ (List.getElem_mem hlt)
      rw [← rd_eq hlt] at hc
      have hs := number_step b hb at_ n i (by omega) x hlt _ rfl hc.1 hc.2 hx0 hx1
      by_cases hq : i = 9 ∧ rd b ((at_ + i : Nat) : Int) > 1 ∨ rd b ((at_ + i : Nat) : Int) = 0 ∧ 0 < i
      · exact .inl (hs.1 hq)
      · refine .inr ⟨_, _, hs.2.1 hq (by omega), hc.1, fun _ => by omega, ?_, by omega, by omega⟩
        rw [rd_drop hlt]
        rfl
    · left
      have hw : wrap64 ((at_ : Int) + (i : Int)) = ((at_ + i : Nat) : Int) := by rw [w64 (by omega) (by omega)]; omega
      simp only [novationref4_number.l0, novationref4_number.j1]
      rw [if_pos (by omega), hw, decide_eq_false (by omega)]
      simp
  | succ f ih =>
    intro n i x hf hx0 hx1 hl ha hn
    have hi8 : i ≤ 8 := by omega
    obtain ⟨n, rfl⟩ : ∃ m, n = m + 3 := ⟨n - 3, by omega⟩
    by_cases hlt : at_ + i < b.length
    · have hc := hB _ (List.getElem_mem hlt)
      rw [← rd_eq hlt] at hc
      have hs := number_step b hb at_ n i (by omega) x hlt _ rfl hc.1 hc.2 hx0 hx1
      generalize hcc : rd b ((at_ + i : Nat) : Int) = c at hs hc
      by_cases hq : i = 9 ∧ c > 1 ∨ c = 0 ∧ 0 < i
      · exact .inl (hs.1 hq)
      · by_cases h128 : c < 128
        · refine .inr ⟨_, _, hs.2.1 hq h128, hc.1, fun _ => by omega, ?_, by omega, by omega⟩
          rw [rd_drop hlt, hcc]
          simp only [vb]
          rw [if_neg (by omega)]
          rfl
        · rw [hs.2.2 hq (by omega)]
          have hp1 : pp (i + 1) = pp i * 128 := rfl
          have hpp := pp_pos i
          have h5 : c % 128 * pp i ≤ 127 * pp i := Int.mul_le_mul_of_nonneg_right (by omega) (by omega)
          have hge : 0 ≤ (c % 128) * pp i := Int.mul_nonneg (by omega) (by omega)
          rcases ih n (i + 1) (x + c % 128 * pp i) (by omega) (by omega) (by rw [hp1]; omega) (by omega) ha (by omega) with h | ⟨u, nx, h1, h2, h3, h4, h6, h7⟩
          · exact .inl h
          · have hu := h3 (by omega)
            refine .inr ⟨c % 128 + 128 * u, nx, ?_, by omega, fun _ => by omega, ?_, by omega, h7⟩
            · rw [h1, hp1, Int.add_mul, show 128 * u * pp i = u * (pp i * 128) by rw [Int.mul_comm 128 u, Int.mul_assoc, Int.mul_comm 128]]
              rw [Int.add_assoc]
            · rw [rd_drop hlt, hcc]
              simp only [vb]
              rw [if_pos (by omega), show (c % 128 + 128 * u) % 128 + 128 = c by omega, show (c % 128 + 128 * u) / 128 = u by omega]
              rw [show at_ + i + 1 = at_ + (i + 1) by omega, h4]
              rfl
    · left
      have hw : wrap64 ((at_ : Int) + (i : Int)) = ((at_ + i : Nat) : Int) := by rw [w64 (by omega) (by omega)]; omega
      simp only [novationref4_number.l0, novationref4_number.j1]
      rw [if_pos (by omega), hw, decide_eq_false (by omega)]
      simp
theorem rread_any (b : List Int) (hB : ∀ x ∈ b, 0 ≤ x ∧ x ≤ 255) (hb : b.length ≤ 900) (s : ByteArray) (hs : s.size ≤ 100) (hL : ∀ l ∈ bytesOf s, isLetter l) (hN : (bytesOf s).Nodup) (d : Nat) : ∀ (n i at_ : Nat) (own : T8), s.size - i = d → i ≤ s.size → d + 60 ≤ n → at_ ≤ b.length →
    ∃ r, novationref4_ReadEvent.l0 n b (at_ : Int) s (i : Int) own.1 own.2.1 own.2.2.1 own.2.2.2.1 own.2.2.2.2.1 own.2.2.2.2.2.1 own.2.2.2.2.2.2.1 own.2.2.2.2.2.2.2 = some r ∧
      (r = bad ∨ ∃ e : T8, r = told e 0 ∧ rt e = true ∧ e.1 = own.1 ∧ b.drop at_ = evEncs ((bytesOf s).drop i) e ∧ ∀ m, isLetter m → m ∉ (bytesOf s).drop i → gt e m = gt own m) := by
  have hlen := bytesOf_length s
  induction d with
  | zero =>
    intro n i at_ own hd hi hn ha
    obtain ⟨n, rfl⟩ : ∃ m, n = m + 1 := ⟨n - 1, by omega⟩
    have : i = s.size := by omega
    subst this
    simp only [novationref4_ReadEvent.l0]
    rw [if_neg (by omega)]
    by_cases he : (at_ : Int) = (b.length : Int)
    · rw [if_pos he, rright_ev (by omega)]
      simp only [bsome]
      by_cases hr : rt own = true
      · rw [if_pos hr]
        refine ⟨_, rfl, .inr ⟨own, rfl, hr, rfl, ?_, fun _ _ _ => rfl⟩⟩
        rw [← hlen, List.drop_length, List.drop_of_length_le (by omega)]
        rfl
      · rw [if_neg hr]
        exact ⟨_, rfl, .inl rfl⟩
    · rw [if_neg he]
      exact ⟨_, rfl, .inl rfl⟩
  | succ d ih =>
    intro n i at_ own hd hi hn ha
    obtain ⟨n, rfl⟩ : ∃ m, n = m + 1 := ⟨n - 1, by omega⟩
    have hlt : i < (bytesOf s).length := by omega
    have hw : wrap64 ((i : Int) + 1) = ((i + 1 : Nat) : Int) := by rw [w64 (by omega) (by omega)]; omega
    have hle : isLetter (rd (bytesOf s) (i : Int)) := by rw [rd_eq hlt]; exact hL _ (List.getElem_mem hlt)
    simp only [novationref4_ReadEvent.l0]
    rw [if_pos (by omega)]
    have hnum := number_any b hB (by omega) at_ 9 n 0 0 (by omega) (by omega) (by decide) (by omega) (by omega) (by omega)
    rcases hnum with hnum | ⟨u, nx, hnum, hu0, _, hbd, h6, h7⟩
    · have hf : novationref4_number.f n b (at_ : Int) = some (0, -1) := hnum
      rw [hf]
      simp only [bsome]
      rw [if_pos (by decide)]
      exact ⟨_, rfl, .inl rfl⟩
    · have hf : novationref4_number.f n b (at_ : Int) = some (unz u, (nx : Int)) := by
        have h9 : unz (0 + u * pp 0) = unz u := by simp [pp]
        rw [← h9]; exact hnum
      rw [hf]
      simp only [bsome]
      rw [if_neg (by omega), if_pos (by omega), rwith_ev]
      simp only [bsome]
      rw [hw, ← rd_bytesOf]
      obtain ⟨r, hr, hq⟩ := ih n (i + 1) nx (wth own (rd (bytesOf s) (i : Int)) (unz u)) (by omega) (by omega) (by omega) (by omega)
      refine ⟨r, hr, ?_⟩
      rcases hq with hq | ⟨e, q1, q2, q3, q4, q5⟩
      · exact .inl hq
      · have hd2 := rd_drop hlt
        have hnd : rd (bytesOf s) (i : Int) ∉ (bytesOf s).drop (i + 1) := by
          have h2 := hN.sublist (List.drop_sublist i (bytesOf s))
          rw [hd2] at h2
          exact (List.nodup_cons.1 h2).1
        refine .inr ⟨e, q1, q2, by rw [q3, wth_kind], ?_, fun m hm hmn => ?_⟩
        · rw [hd2]
          simp only [evEncs]
          rw [q5 _ hle hnd, gt_wth, ← q4]
          have : enc (unz u) = vb 9 u := by unfold enc; rw [zig_unz u hu0]
          rw [this]
          simpa using hbd
        · rw [hd2] at hmn
          rw [q5 m hm (fun h => hmn (List.mem_cons_of_mem _ h)), gt_wth_ne _ _ _ _ hle hm (fun h => hmn (by rw [h]; exact List.mem_cons_self ..))]
theorem rread_is (b : List Int) (hb : b.length ≤ 900) (e : T8) (he : rt e = true) (s : ByteArray) (hs : s.size ≤ 100) (hr : ∀ l ∈ bytesOf s, -9223372036854775808 ≤ gt e l ∧ gt e l ≤ 9223372036854775807) (d : Nat) :
    ∀ (n i at_ : Nat) (own : T8), s.size - i = d → i ≤ s.size → d + 60 ≤ n → at_ ≤ b.length → b.drop at_ = evEncs ((bytesOf s).drop i) e → fill ((bytesOf s).drop i) e own = e →
    novationref4_ReadEvent.l0 n b (at_ : Int) s (i : Int) own.1 own.2.1 own.2.2.1 own.2.2.2.1 own.2.2.2.2.1 own.2.2.2.2.2.1 own.2.2.2.2.2.2.1 own.2.2.2.2.2.2.2 = some (told e 0) := by
  have hlen := bytesOf_length s
  induction d with
  | zero =>
    intro n i at_ own hd hi hn ha hb2 hfl
    obtain ⟨n, rfl⟩ : ∃ m, n = m + 1 := ⟨n - 1, by omega⟩
    have : i = s.size := by omega
    subst this
    rw [← hlen, List.drop_length] at hfl hb2
    have hoe : own = e := hfl
    subst hoe
    have hal : at_ = b.length := by
      have := congrArg List.length hb2
      simp [evEncs] at this
      omega
    simp only [novationref4_ReadEvent.l0]
    rw [if_neg (by omega), if_pos (by omega), rright_ev (by omega)]
    simp only [bsome]
    rw [if_pos he]
    rfl
  | succ d ih =>
    intro n i at_ own hd hi hn ha hb2 hfl
    obtain ⟨n, rfl⟩ : ∃ m, n = m + 1 := ⟨n - 1, by omega⟩
    have hlt : i < (bytesOf s).length := by omega
    have hw : wrap64 ((i : Int) + 1) = ((i + 1 : Nat) : Int) := by rw [w64 (by omega) (by omega)]; omega
    have hg := hr (rd (bytesOf s) (i : Int)) (by rw [rd_eq hlt]; exact List.getElem_mem hlt)
    rw [rd_drop hlt] at hb2 hfl
    simp only [evEncs, fill] at hb2 hfl
    have hlen2 := congrArg List.length hb2
    simp only [List.length_drop, List.length_append] at hlen2
    have hpos := (enc_len (gt e (rd (bytesOf s) (i : Int)))).1
    simp only [novationref4_ReadEvent.l0]
    rw [if_pos (by omega), rnumber_ev (by omega) b (by omega) at_ (by omega) _ hg.1 hg.2 _ hb2]
    simp only [bsome]
    rw [if_neg (by omega), if_pos (by omega), rwith_ev]
    simp only [bsome]
    rw [hw, ← rd_bytesOf]
    have g1 : s.size - (i + 1) = d := by clear hlen2 hg hw; omega
    have g2 : d + 60 ≤ n := by clear hlen2 hg hw; omega
    have g3 : at_ + (enc (gt e (rd (bytesOf s) (i : Int)))).length ≤ b.length := by clear hg hw; omega
    have g4 : b.drop (at_ + (enc (gt e (rd (bytesOf s) (i : Int)))).length) = evEncs ((bytesOf s).drop (i + 1)) e := by rw [← List.drop_drop, hb2, List.drop_left]
    exact ih n (i + 1) _ (wth own (rd (bytesOf s) (i : Int)) (gt e (rd (bytesOf s) (i : Int)))) g1 (by omega) g2 g3 g4 hfl
theorem rread_yes {n : Nat} (hn : 100 ≤ n) (e : T8) (he : rt e = true) (hb : (puts e).length ≤ 900) : novationref4_ReadEvent.f n (puts e) = some (told e 0) := by
  obtain ⟨n, rfl⟩ : ∃ m, n = m + 1 := ⟨n - 1, by omega⟩
  unfold novationref4_ReadEvent.f
  have hk := rt_kind e he
  have h0 : ((puts e).length : Int) ≠ 0 := by simp [puts]; omega
  have hr0 : rd (puts e) 0 = e.1 := by simp [puts, rd]
  have hw : wrap64 e.1 = e.1 := w64 (by omega) (by omega)
  rw [if_neg h0, if_pos (by omega), hr0, hw]
  unfold novationref4_Kind.f
  rw [if_pos (by omega), decide_eq_true (by omega)]
  simp only [bsome, novationref4_ReadEvent.j0]
  rw [if_neg (by simp), if_pos (by omega), hr0, hw, rfields_ev (by omega)]
  simp only [bsome]
  have hl := fld_len e.1
  have hs := fldS_size e.1
  have := rread_is (puts e) hb e he (fldS e.1) (by omega) (by rw [fldS_bytes]; exact rt_range e he) (fldS e.1).size n 0 1 (bare e.1) (by omega) (by omega) (by omega) (by simp [puts]) (by simp [puts, fldS_bytes]) (by simpa [fldS_bytes] using (rt_all e he).2)
  simpa [bare] using this
theorem rread_no {n : Nat} (hn : 100 ≤ n) (b : List Int) (hb : ∀ x ∈ b, 0 ≤ x ∧ x ≤ 255) (hbl : b.length ≤ 900) (h : ∀ e, rt e = true → puts e ≠ b) : novationref4_ReadEvent.f n b = some bad := by
  obtain ⟨n, rfl⟩ : ∃ m, n = m + 1 := ⟨n - 1, by omega⟩
  unfold novationref4_ReadEvent.f
  by_cases h0 : (b.length : Int) = 0
  · rw [if_pos h0]; rfl
  have hlt : 0 < b.length := by omega
  have hr1 := rd_eq hlt
  rw [show ((0 : Nat) : Int) = 0 from rfl] at hr1
  have hbyte : 0 ≤ rd b 0 ∧ rd b 0 ≤ 255 := by rw [hr1]; exact hb _ (List.getElem_mem hlt)
  have hw : wrap64 (rd b 0) = rd b 0 := w64 (by omega) (by omega)
  rw [if_neg h0, if_pos (by omega), hw]
  unfold novationref4_Kind.f
  by_cases hk : 1 ≤ rd b 0 ∧ rd b 0 ≤ 22
  · rw [if_pos (by omega), decide_eq_true (by omega)]
    simp only [bsome, novationref4_ReadEvent.j0]
    rw [if_neg (by simp), if_pos (by omega), hw, rfields_ev (by omega)]
    simp only [bsome]
    have hl := fld_len (rd b 0)
    have hs := fldS_size (rd b 0)
    obtain ⟨r, hr, hq⟩ := rread_any b hb hbl (fldS (rd b 0)) (by omega) (by rw [fldS_bytes]; exact fld_letter _) (by rw [fldS_bytes]; exact fld_nodup _) (fldS (rd b 0)).size n 0 1 (bare (rd b 0)) (by omega) (by omega) (by omega) (by omega)
    have hr' : novationref4_ReadEvent.l0 n b 1 (fldS (rd b 0)) 0 (rd b 0) 0 0 0 0 0 0 0 = some r := by simpa [bare] using hr
    rw [hr']
    rcases hq with hq | ⟨e, _, q2, q3, q4, _⟩
    · rw [hq]
    · exfalso
      refine h e q2 ?_
      have h3 : e.1 = rd b 0 := q3
      unfold puts
      rw [h3, ← fldS_bytes]
      have h4 : b.drop 1 = evEncs (bytesOf (fldS (rd b 0))) e := by simpa using q4
      rw [← h4]
      have h5 := rd_drop hlt
      rw [show ((0 : Nat) : Int) = 0 from rfl] at h5
      simpa using h5.symm
  · have : ∀ k, novationref4_ReadEvent.j0 (k + 1) b true = some bad := fun k => by simp [novationref4_ReadEvent.j0, bad]
    by_cases h1 : rd b 0 ≥ 1
    · rw [if_pos h1, decide_eq_false (by omega)]
      simp only [bsome]
      exact this n
    · rw [if_neg h1]
      simp only [bsome]
      exact this n
theorem known_yes : novationlaw6_known.f 120 = some true := by decide +kernel
theorem known_ev {n : Nat} (hn : 120 ≤ n) : novationlaw6_known.f n = some true := at_rounds (fun k => novationlaw6_known.mono k) hn known_yes
theorem reads_ev {n : Nat} (hn : 100 ≤ n) (b : List Int) (hb : ∀ x ∈ b, 0 ≤ x ∧ x ≤ 255) (hbl : b.length ≤ 900) : novationlaw6_reads.f n b = some true := by
  unfold novationlaw6_reads.f
  by_cases h : ∃ e, rt e = true ∧ puts e = b
  · obtain ⟨e, he, rfl⟩ := h
    rw [read_yes hn e he hbl, rread_yes hn e he hbl]
    simp [told]
  · have h' : ∀ e, rt e = true → puts e ≠ b := fun e he hp => h ⟨e, he, hp⟩
    rw [read_no hn b hb hbl h', rread_no hn b hb hbl h']
    simp [bad]
theorem EventReads : novationlaw6_EventReads.Pure := by
  intro b _ _ hw
  refine ⟨200, ?_⟩
  unfold novationlaw6_EventReads.f
  rw [known_ev (by omega)]
  simp only [bsome]
  rw [if_pos trivial]
  by_cases h : (b.length : Int) > 200
  · rw [if_pos h]
  · rw [if_neg h, reads_ev (by omega) b (fun x hx => bounds_u8 (hw x hx)) (by omega)]
    rfl

end Go.Proofs.Ytdhedlkfpdakpaa.Pure
