/- Whatever kinds of events come, closed is reached from defaulted alone, defaulted from suspended alone, and a closed one stays closed. No condition. -/
import Derived.Test.YtmeppmmdlpkniaaPStandingEndsx2
import Derived.Test.YtmeppmmdlpkniaaWSized
namespace Go.Proofs.Ytmeppmmdlpkniaa.PrintWords
/-- The word under the name by which the printed row asks for it. -/
abbrev sized_ints := @Go.Proofs.YtmeppmmdlpkniaaW.PrintWords.sized_ints
end Go.Proofs.Ytmeppmmdlpkniaa.PrintWords
namespace Go.Proofs.Ytmeppmmdlpkniaa.Pure
open Go.RowKit Go.Proofs.Ytmeppmmdlpkniaa.PStandingEnds Go.Proofs.YtmeppmmdlpkniaaW.PrintWords Go.Proofs.YtmeppmmdlpkniaaW.PrintLast

/-- What a status becomes by a kind. -/
def nx (s k : Int) : Int × Bool :=
  if s = 0 ∧ k = 1 ∨ s = 2 ∧ k = 12 then (1, true) else if s = 1 ∧ k = 11 then (2, true) else if s = 2 ∧ k = 13 then (3, true) else if s = 3 ∧ k = 21 then (4, true) else (0, false)
theorem next_eq (n : Nat) (s k : Int) : standing_Next.f (n + 5) s k = some (nx s k) := by
  unfold standing_Next.f
  simp only [standing_Next.j0, standing_Next.j1, standing_Next.j2, standing_Next.j3, nx]
  by_cases h0 : s = 0
  · subst h0; by_cases h : k = 1 <;> simp [h]
  · by_cases h1 : s = 1
    · subst h1; by_cases h : k = 11 <;> simp [h]
    · by_cases h2 : s = 2
      · subst h2; by_cases h : k = 12
        · simp [h]
        · by_cases h' : k = 13 <;> simp [h, h']
      · by_cases h3 : s = 3
        · subst h3; by_cases h : k = 21 <;> simp [h]
        · simp [h0, h1, h2, h3]
theorem next_ev {n : Nat} (h : 5 ≤ n) (s k : Int) : standing_Next.f n s k = some (nx s k) := by
  obtain ⟨m, rfl⟩ : ∃ m, n = m + 5 := ⟨n - 5, by omega⟩
  exact next_eq m s k

theorem known_mono {k n : Nat} (h : k ≤ n) {r : Bool} (hk : novationlaw10_known.f k = some r) : novationlaw10_known.f n = some r :=
  at_rounds (fun k => novationlaw10_known.mono k) h hk
theorem known_yes {n : Nat} (h : 40 ≤ n) : novationlaw10_known.f n = some true := known_mono h (by decide +kernel)

theorem u8_nonneg {x : Int} (h : (Lit.int .u8 x).wf = true) : 0 ≤ x := by
  simp [Lit.wf, show IntKind.u8.min = 0 from by decide] at h
  exact h.1
theorem mod5 (x : Int) (h : (Lit.int .u8 x).wf = true) : 0 ≤ x.tmod 5 ∧ x.tmod 5 < 5 := by
  have hx : 0 ≤ x := by
    have h1 := u8_nonneg h
    omega
  rw [Int.tmod_eq_emod_of_nonneg hx]
  omega
theorem wf_rd {l : List Int} {i : Nat} (h : i < l.length) {k : IntKind} (hw : ∀ x ∈ l, (Lit.int k x).wf = true) : (Lit.int k (rd l i)).wf = true := by
  have : rd l i = l[i] := by simp [rd, List.getD_eq_getElem?_getD, List.getElem?_eq_getElem h]
  rw [this]; exact hw _ (List.getElem_mem h)

theorem nx_facts (s x : Int) (h : (nx s x).2 = true) : (nx s x).1 ≠ 4 ∧ (nx s x).1 ≠ 3 ∧ 1 ≤ (nx s x).1 ∧ (nx s x).1 ≤ 4 ∨ (nx s x).1 = 4 ∧ s = 3 ∨ (nx s x).1 = 3 ∧ s = 2 := by
  revert h; unfold nx; repeat' split
  all_goals simp
  · omega
  · omega
theorem nx_closed (x : Int) : (nx 4 x).2 = false := by unfold nx; simp
theorem ends_loop (ks : List Int) (x : Int) (hks : ks.length ≤ 200) (hu : ∀ x ∈ ks, (Lit.int .u8 x).wf = true) (d : Nat) : ∀ (k i : Nat) (s : Int), ks.length - i = d → i ≤ ks.length → d + 1500 ≤ k →
    novationlaw10_StandingEnds.l0 k ks x s i = some true := by
  induction d with
  | zero =>
    intro k i s hd hi hk
    obtain ⟨k, rfl⟩ : ∃ m, k = m + 1 := ⟨k - 1, by omega⟩
    simp only [novationlaw10_StandingEnds.l0]
    rw [if_neg (by omega), next_ev (by omega)]
    simp only [Option.bind_some, nx_closed, standing_Live.f]
    by_cases h1 : s = 1 <;> simp [h1]
  | succ d ih =>
    intro k i s hd hi hk
    obtain ⟨k, rfl⟩ : ∃ m, k = m + 1 := ⟨k - 1, by omega⟩
    have hlt : i < ks.length := by omega
    have hw : wrap64 ((i : Int) + 1) = ((i + 1 : Nat) : Int) := by unfold wrap64; omega
    obtain ⟨m0, m1⟩ := mod5 (rd ks i) (wf_rd hlt hu)
    simp only [novationlaw10_StandingEnds.l0]
    rw [if_pos (by omega)]
    simp only [Option.bind_some]
    rw [if_pos (by omega), if_pos (by omega), if_pos (by simpa using m1), next_ev (by omega)]
    simp only [Option.bind_some, hw]
    have hr : ∀ s, novationlaw10_StandingEnds.l0 k ks x s ((i + 1 : Nat) : Int) = some true := fun s => ih k (i + 1) s (by omega) (by omega) (by omega)
    simp only [hr]
    generalize rd [1, 11, 12, 13, 21] (Int.tmod (rd ks i) 5) = y
    cases hb : (nx s y).2 with
    | false => simp
    | true =>
      rcases nx_facts s y hb with ⟨a, b, c, e⟩ | ⟨a, b⟩ | ⟨a, b⟩
      · simp only [if_true]
        rw [if_neg a, if_neg b, if_neg (by omega), if_neg (by omega)]
      · rw [a, b]; simp
      · rw [a, b]; simp
theorem StandingEnds : novationlaw10_StandingEnds.Pure := by
  intro ks x _ _ hu _
  refine ⟨2000, ?_⟩
  unfold novationlaw10_StandingEnds.f
  rw [known_yes (by omega)]
  simp only [Option.bind_some, if_true]
  by_cases h2 : (ks.length : Int) > 200
  · rw [if_pos h2]
  · rw [if_neg h2]
    exact ends_loop ks x (by omega) hu ks.length 2000 0 _ (by omega) (by omega) (by omega)

end Go.Proofs.Ytmeppmmdlpkniaa.Pure
