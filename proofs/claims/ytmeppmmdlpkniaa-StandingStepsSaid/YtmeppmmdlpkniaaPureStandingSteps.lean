/- For every row of kinds and every further kind the path with one more kind is the path and one step. No condition. -/
import Derived.Test.YtmeppmmdlpkniaaPStandingStepsx2
import Derived.Test.YtmeppmmdlpkniaaWSized
namespace Go.Proofs.Ytmeppmmdlpkniaa.PrintWords
/-- The word under the name by which the printed row asks for it. -/
abbrev sized_ints := @Go.Proofs.YtmeppmmdlpkniaaW.PrintWords.sized_ints
end Go.Proofs.Ytmeppmmdlpkniaa.PrintWords
namespace Go.Proofs.Ytmeppmmdlpkniaa.Pure
open Go.RowKit Go.Proofs.Ytmeppmmdlpkniaa.PStandingSteps Go.Proofs.YtmeppmmdlpkniaaW.PrintWords Go.Proofs.YtmeppmmdlpkniaaW.PrintLast

/-- What a status becomes by a kind. -/
def nx (s k : Int) : Int × Bool :=
  if s = 0 ∧ k = 1 ∨ s = 2 ∧ k = 12 then (1, true) else if s = 1 ∧ k = 11 then (2, true) else if s = 2 ∧ k = 13 then (3, true) else if s = 3 ∧ k = 21 then (4, true) else (0, false)
theorem next_eq (n : Nat) (s k : Int) : standing_Next.f (n + 5) s k = some (nx s k) := by
  unfold standing_Next.f
  simp only [standing_Next.j0, standing_Next.j1, standing_Next.j2, standing_Next.j3, nx]
  by_cases h0 : s = 0
  · subst h0; by_cases h : k = 1 <;> simp [h]
  · by_cases h1 : s = 1
    · subst h1; by_cases h : k = 11 <;> simp [h]
    · by_cases h2 : s = 2
      · subst h2; by_cases h : k = 12
        · simp [h]
        · by_cases h' : k = 13 <;> simp [h, h']
      · by_cases h3 : s = 3
        · subst h3; by_cases h : k = 21 <;> simp [h]
        · simp [h0, h1, h2, h3]
theorem next_ev {n : Nat} (h : 5 ≤ n) (s k : Int) : standing_Next.f n s k = some (nx s k) := by
  obtain ⟨m, rfl⟩ : ∃ m, n = m + 5 := ⟨n - 5, by omega⟩
  exact next_eq m s k

theorem known_mono {k n : Nat} (h : k ≤ n) {r : Bool} (hk : novationlaw10_known.f k = some r) : novationlaw10_known.f n = some r :=
  at_rounds (fun k => novationlaw10_known.mono k) h hk
theorem known_yes {n : Nat} (h : 40 ≤ n) : novationlaw10_known.f n = some true := known_mono h (by decide +kernel)

/-- Where kinds lead from a status on. -/
def pathFrom : Int → List Int → Int × Bool
  | s, [] => (s, true)
  | s, k :: l => if (nx s k).2 = true then pathFrom (nx s k).1 l else (0, false)
theorem rd_drop {l : List Int} {i : Nat} (h : i < l.length) : l.drop i = rd l i :: l.drop (i + 1) := by
  rw [List.drop_eq_getElem_cons h]
  simp [rd, List.getD_eq_getElem?_getD, List.getElem?_eq_getElem h]
theorem path_loop (l : List Int) (hl : l.length ≤ 1000) (d : Nat) : ∀ (k i : Nat) (s : Int), l.length - i = d → i ≤ l.length → d + 6 ≤ k →
    standing_Path.l0 k s l (l.length : Int) i = some (pathFrom s (l.drop i)) := by
  induction d with
  | zero =>
    intro k i s hd hi hk
    obtain ⟨k, rfl⟩ : ∃ m, k = m + 1 := ⟨k - 1, by omega⟩
    have : i = l.length := by omega
    subst this
    simp only [standing_Path.l0]
    rw [if_neg (by omega), List.drop_length]; rfl
  | succ d ih =>
    intro k i s hd hi hk
    obtain ⟨k, rfl⟩ : ∃ m, k = m + 1 := ⟨k - 1, by omega⟩
    have hlt : i < l.length := by omega
    simp only [standing_Path.l0]
    rw [if_pos (by omega), if_pos (by omega), if_pos (by omega), next_ev (by omega)]
    rw [rd_drop hlt]
    simp only [Option.bind_some, pathFrom]
    have hw : wrap64 ((i : Int) + 1) = ((i + 1 : Nat) : Int) := by unfold wrap64; omega
    split
    · rw [hw]; exact ih k (i + 1) _ (by omega) (by omega) (by omega)
    · rfl
theorem path_ev (l : List Int) (hl : l.length ≤ 1000) {k : Nat} (hk : l.length + 6 ≤ k) : standing_Path.f k l = some (pathFrom 0 l) := by
  unfold standing_Path.f
  have := path_loop l hl l.length k 0 0 (by omega) (by omega) (by omega)
  simpa using this
theorem pathFrom_append (l m : List Int) : ∀ s, pathFrom s (l ++ m) = if (pathFrom s l).2 = true then pathFrom (pathFrom s l).1 m else (0, false) := by
  induction l with
  | nil => intro s; simp [pathFrom]
  | cons x l ih =>
    intro s
    simp only [List.cons_append, pathFrom]
    split
    · exact ih _
    · simp
theorem pathFrom_no (l : List Int) : ∀ s, (pathFrom s l).2 = false → (pathFrom s l).1 = 0 := by
  induction l with
  | nil => intro s h; simp [pathFrom] at h
  | cons x l ih =>
    intro s h
    simp only [pathFrom] at h ⊢
    split
    · rename_i h'
      rw [if_pos h'] at h
      exact ih _ h
    · rfl
theorem u8_nonneg {x : Int} (h : (Lit.int .u8 x).wf = true) : 0 ≤ x := by
  simp [Lit.wf, show IntKind.u8.min = 0 from by decide] at h
  exact h.1
theorem mod5 (x : Int) (h : (Lit.int .u8 x).wf = true) : 0 ≤ x.tmod 5 ∧ x.tmod 5 < 5 := by
  have hx : 0 ≤ x := by
    have h1 := u8_nonneg h
    omega
  rw [Int.tmod_eq_emod_of_nonneg hx]
  omega
theorem wf_rd {l : List Int} {i : Nat} (h : i < l.length) {k : IntKind} (hw : ∀ x ∈ l, (Lit.int k x).wf = true) : (Lit.int k (rd l i)).wf = true := by
  have : rd l i = l[i] := by simp [rd, List.getD_eq_getElem?_getD, List.getElem?_eq_getElem h]
  rw [this]; exact hw _ (List.getElem_mem h)

theorem make_loop (ks : List Int) (x : Int) (hks : ks.length ≤ 200) (hu : ∀ x ∈ ks, (Lit.int .u8 x).wf = true) (d : Nat) : ∀ (k i : Nat) (l : List Int), ks.length - i = d → i ≤ ks.length → l.length ≤ i → d + 1500 ≤ k →
    novationlaw10_StandingSteps.l0 k ks x l i = some true := by
  induction d with
  | zero =>
    intro k i l hd hi hl hk
    obtain ⟨k, rfl⟩ : ∃ m, k = m + 1 := ⟨k - 1, by omega⟩
    simp only [novationlaw10_StandingSteps.l0]
    rw [if_neg (by omega), path_ev l (by omega) (by omega)]
    simp only [Option.bind_some, List.nil_append]
    rw [if_pos (by simp; omega), if_pos (by omega), path_ev _ (by simp; omega) (by simp; omega)]
    simp only [Option.bind_some]
    rw [pathFrom_append]
    cases hb : (pathFrom 0 l).2 with
    | true =>
      rw [if_pos rfl, if_pos rfl, next_ev (by omega)]
      simp only [Option.bind_some, pathFrom]
      by_cases hc : (nx (pathFrom 0 l).1 x).2 = true
      · simp [hc]
      · have h0 : (nx (pathFrom 0 l).1 x).1 = 0 := by
          revert hc; unfold nx; repeat' split
          all_goals simp
        simp [h0, hc]
    | false =>
      simp [pathFrom_no l 0 hb]
  | succ d ih =>
    intro k i l hd hi hl hk
    obtain ⟨k, rfl⟩ : ∃ m, k = m + 1 := ⟨k - 1, by omega⟩
    have hlt : i < ks.length := by omega
    have hw : wrap64 ((i : Int) + 1) = ((i + 1 : Nat) : Int) := by unfold wrap64; omega
    obtain ⟨m0, m1⟩ := mod5 (rd ks i) (wf_rd hlt hu)
    simp only [novationlaw10_StandingSteps.l0]
    rw [if_pos (by omega)]
    simp only [Option.bind_some]
    rw [if_pos (by omega), if_pos (by omega), if_pos (by simpa using m1), if_pos (by omega), hw]
    exact ih k (i + 1) _ (by omega) (by omega) (by simp; omega) (by omega)
theorem StandingSteps : novationlaw10_StandingSteps.Pure := by
  intro ks x _ _ hu _
  refine ⟨2000, ?_⟩
  unfold novationlaw10_StandingSteps.f
  rw [known_yes (by omega)]
  simp only [Option.bind_some, if_true]
  by_cases h2 : (ks.length : Int) > 200
  · rw [if_pos h2]
  · rw [if_neg h2]
    exact make_loop ks x (by omega) hu ks.length 2000 0 _ (by omega) (by omega) (by simp) (by omega)

end Go.Proofs.Ytmeppmmdlpkniaa.Pure
