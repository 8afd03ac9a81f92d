import Derived.Test.YtndgfpknegoleaaC10
/-! Chunks of four. -/
set_option linter.unusedVariables false
set_option linter.unusedSimpArgs false
set_option maxHeartbeats 4000000
set_option maxRecDepth 100000
namespace Go.Proofs.Ytndgfpknegoleaa.T
open Go Go.Ab
section
variable {H : AH} {v : AV}
/-- A part of a slice, its capacity cut. -/
theorem SL.cut3 {cs : List AV} (h : SL H 1 v cs) {lo hi : Nat} (hl : lo < hi) (hh : hi ≤ cs.length) :
    ∃ v', aslice H 1 v (some (.int .i64 lo)) (some (.int .i64 hi)) (some (.int .i64 hi)) = some v' ∧ SL H 1 v' ((cs.take hi).drop lo) ∧ ∀ i ∈ blk v', i ∈ blk v := by
  cases h with
  | nil c s => simp at hh; omega
  | at_ b o n c l cs hz h1 h2 h3 h4 =>
    have hn : cs.length = n := by rw [← h3]; simp; omega
    have a1 : abound hi (.int .i64 (hi : Int)) = some hi := abound_of rfl (Nat.le_refl _)
    have a2 : abound hi (.int .i64 (lo : Int)) = some lo := abound_of rfl (by omega)
    have a3 : abound n (.int .i64 (hi : Int)) = some hi := abound_of rfl (by omega)
    have key : SL H 1 (.slice (some (b, o + lo)) (hi - lo) (some (hi - lo)) 1) ((cs.take hi).drop lo) := by
      refine .at_ b _ _ _ l _ Nat.one_pos h1 (by omega) ?_ (fun k hk => by cases hk; exact Nat.le_refl _)
      rw [← h3, List.take_take, List.drop_take, List.drop_drop]
      congr 1
      omega
    refine ⟨_, ?_, key, by simp⟩
    cases c with
    | none => simp [aslice, a1, a2, a3]
    | some c =>
      have a4 : abound c (.int .i64 (hi : Int)) = some hi := abound_of rfl (by have := h4 c rfl; omega)
      simp [aslice, a1, a2, a4]
def chunkA (xs : List Int) (j : Nat) (H : AH) (a : List AV) : Prop := ∃ x, a = [x] ∧ SN H x ((xs.drop (4 * j)).take 4)
def chunkI (p : Nat) (xs : List Int) (H : AH) : Prop := (∃ v, H[p]? = some (.cells [v] .rw) ∧ SN H v xs) ∧ H[p + 1]? = some (.cells [.int .i64 4] .rw)
theorem chunk_goes {xs : List Int} {n : Nat} (hl : xs.length = 4 * n) (hs : xs.length ≤ 1000000) {k p l : Nat} {H0 : AH} (hk : n + 30 < k) :
    Goes ap k n (.func 35 [] [.ptr (some (p, 0)), .ptr (some (p + 1, 0))]) (chunkA xs) (chunkI p xs) H0 l := by
  intro J D hJ hD hI hround h0
  rw [hx_call fn35 rfl]
  simp [f35, b35]
  refine hx_up (fun i s => ∃ H', s = ⟨sp 31 [(0, .yield l), (1, .ptr (some (p, 0))), (2, .ptr (some (p + 1, 0))), (4, .int .i64 ((4 * i : Nat) : Int))], H', []⟩ ∧ J i H') n ?_ ?_ (by omega) ⟨H0, by simp [maskS], h0⟩
  · rintro i s hi ⟨H1, rfl, hJ1⟩
    obtain ⟨⟨v, i1, i2⟩, i3⟩ := hI _ _ hJ1
    have r1 := rowOf_rw i1
    obtain ⟨a, c, s, rfl⟩ := SN.form i2
    obtain ⟨m, hm⟩ : ∃ m, m = 4 * i := ⟨_, rfl⟩
    rw [← hm]
    have hlt : (m : Int) < (xs.length : Int) := by omega
    have hlt' : m < xs.length := by omega
    simp [r1, hlt, hlt']
    refine hx_drawn dc35_3 fun H2 c2 hl2 hd2 => ?_
    have j1 := rowOf_rw (c2.get i1 (by simp))
    have j3 := rowOf_rw (c2.get i3 (by simp))
    have j2 := i2.keep c2
    obtain ⟨v2, a2, s2, _, _⟩ := SL.cut (low := some (.int .i64 m)) (high := none) j2 Nat.one_pos (lo := m) (hi := xs.length) (by omega) (by simp) (by simp [lowIs]) (by simp [highIs])
    obtain ⟨a', n', c', s', rfl, e2⟩ := s2.form
    simp at e2
    have w4 : amm1 false .i64 4 [.int .i64 (n' : Int)] = some (.int .i64 4) := by
      simp [amm1]; omega
    have w5 : IntKind.i64.wrap ((m : Int) + 4) = ((m + 4 : Nat) : Int) := by rw [wrap_i64 (by omega) (by omega)]; omega
    obtain ⟨v3, a3, s3, _⟩ := SL.cut3 j2 (lo := m) (hi := m + 4) (by omega) (by simp; omega)
    rw [show ((m + 4 : Nat) : Int) = (m : Int) + 4 by omega] at a3 w5
    simp [d35_3, j1, j3, a2, amm, w4, w5, a3]
    refine Hx.mapp (hround i hi H2 _ (hJ _ _ _ hJ1 c2) ⟨v3, rfl, ?_⟩) ?_
    · rw [hm] at s3
      rw [show (xs.drop (4 * i)).take 4 = (xs.take (4 * i + 4)).drop (4 * i) by rw [List.drop_take]; congr 1; omega]
      show SL H2 1 v3 (i64s _)
      rw [i64s, List.map_drop, List.map_take]
      exact s3
    · rintro ⟨r, H3⟩ (⟨h1, h2⟩ | ⟨h1, h2⟩)
      · simp only at h1 h2
        subst h1
        obtain ⟨_, i3'⟩ := hI _ _ h2
        have j3' := rowOf_rw i3'
        simp [j3', w5, maskS]
        exact ⟨H3, ⟨by omega, rfl⟩, h2⟩
      · simp only at h1 h2
        subst h1
        simp
        exact .inr h2
  · rintro s ⟨H1, rfl, hJ1⟩
    obtain ⟨⟨v, i1, i2⟩, i3⟩ := hI _ _ hJ1
    have r1 := rowOf_rw i1
    obtain ⟨a, c, s, rfl⟩ := SN.form i2
    have hlt : ¬ ((4 * n : Nat) : Int) < (xs.length : Int) := by omega
    have hlt2 : ¬ 4 * n < xs.length := by omega
    have hlt3 : ¬ 4 * (n : Int) < (xs.length : Int) := by omega
    simp [r1, hlt, hlt2, hlt3]
    exact .inl hJ1
theorem chunk_ok {k : Nat} (hv : ∃ a n c s, v = .slice a n c s) : Hx (callA ap (k + 1) (.func 31 [] []) [v, .int .i64 4] 0 H) fun r =>
    r = (.func 35 [] [.ptr (some (H.length, 0)), .ptr (some (H.length + 1, 0))], H ++ [.cells [v] .rw, .cells [.int .i64 4] .rw]) := by
  rw [hx_call fn31 rfl]
  obtain ⟨a, n, c, s, rfl⟩ := hv
  simp [f31, b31]
end
end Go.Proofs.Ytndgfpknegoleaa.T
