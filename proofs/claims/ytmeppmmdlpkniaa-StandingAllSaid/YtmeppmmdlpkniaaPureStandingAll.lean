/- For every status and every kind of event the program's next status, whether one is live, and the status's name are as the document's reference says. No condition. -/
import Derived.Test.YtmeppmmdlpkniaaPStandingAllx2
namespace Go.Proofs.Ytmeppmmdlpkniaa.Pure
open Go.RowKit Go.Proofs.Ytmeppmmdlpkniaa.PStandingAll Go.Proofs.YtmeppmmdlpkniaaW.PrintWords Go.Proofs.YtmeppmmdlpkniaaW.PrintLast

/-- What a status becomes by a kind. -/
def nx (s k : Int) : Int × Bool :=
  if s = 0 ∧ k = 1 ∨ s = 2 ∧ k = 12 then (1, true) else if s = 1 ∧ k = 11 then (2, true) else if s = 2 ∧ k = 13 then (3, true) else if s = 3 ∧ k = 21 then (4, true) else (0, false)
theorem next_eq (n : Nat) (s k : Int) : standing_Next.f (n + 5) s k = some (nx s k) := by
  unfold standing_Next.f
  simp only [standing_Next.j0, standing_Next.j1, standing_Next.j2, standing_Next.j3, nx]
  by_cases h0 : s = 0
  · subst h0; by_cases h : k = 1 <;> simp [h]
  · by_cases h1 : s = 1
    · subst h1; by_cases h : k = 11 <;> simp [h]
    · by_cases h2 : s = 2
      · subst h2; by_cases h : k = 12
        · simp [h]
        · by_cases h' : k = 13 <;> simp [h, h']
      · by_cases h3 : s = 3
        · subst h3; by_cases h : k = 21 <;> simp [h]
        · simp [h0, h1, h2, h3]
theorem ref_eq (n : Nat) (s k : Int) : novationref10_NextStatus.f (n + 5) s k = some (nx s k) := by
  unfold novationref10_NextStatus.f
  simp only [novationref10_NextStatus.j0, novationref10_NextStatus.j1, novationref10_NextStatus.j2, novationref10_NextStatus.j3, nx]
  by_cases h0 : s = 0
  · subst h0; by_cases h : k = 1 <;> simp [h]
  · by_cases h1 : s = 1
    · subst h1; by_cases h : k = 11 <;> simp [h]
    · by_cases h2 : s = 2
      · subst h2; by_cases h : k = 12
        · simp [h]
        · by_cases h' : k = 13 <;> simp [h, h']
      · by_cases h3 : s = 3
        · subst h3; by_cases h : k = 21 <;> simp [h]
        · simp [h0, h1, h2, h3]
theorem known_yes : novationlaw10_known.f 40 = some true := by decide +kernel
theorem StandingAll : novationlaw10_StandingAll.Pure := by
  intro s k _ _
  refine ⟨40, ?_⟩
  unfold novationlaw10_StandingAll.f
  rw [known_yes, next_eq 35, ref_eq 35]
  simp only [Option.bind_some, if_true, standing_Live.f, novationref10_Live.f, standing_Name.f]
  by_cases h1 : s = 1
  · subst h1; simp
  · by_cases h2 : s = 2
    · subst h2; simp
    · by_cases h3 : s = 3
      · subst h3; simp
      · by_cases h4 : s = 4
        · subst h4; simp
        · simp [h1, h2, h3, h4]

end Go.Proofs.Ytmeppmmdlpkniaa.Pure
