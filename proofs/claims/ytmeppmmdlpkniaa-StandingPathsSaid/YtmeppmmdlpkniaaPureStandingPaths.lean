/- For every row of kinds the program tells the status to which the reference leads, and whether it leads anywhere. No condition. -/
import Derived.Test.YtmeppmmdlpkniaaPStandingPathsx2
import Derived.Test.YtmeppmmdlpkniaaWSized
namespace Go.Proofs.Ytmeppmmdlpkniaa.PrintWords
/-- The word under the name by which the printed row asks for it. -/
abbrev sized_ints := @Go.Proofs.YtmeppmmdlpkniaaW.PrintWords.sized_ints
end Go.Proofs.Ytmeppmmdlpkniaa.PrintWords
namespace Go.Proofs.Ytmeppmmdlpkniaa.Pure
open Go.RowKit Go.Proofs.Ytmeppmmdlpkniaa.PStandingPaths Go.Proofs.YtmeppmmdlpkniaaW.PrintWords Go.Proofs.YtmeppmmdlpkniaaW.PrintLast

/-- What a status becomes by a kind. -/
def nx (s k : Int) : Int × Bool :=
  if s = 0 ∧ k = 1 ∨ s = 2 ∧ k = 12 then (1, true) else if s = 1 ∧ k = 11 then (2, true) else if s = 2 ∧ k = 13 then (3, true) else if s = 3 ∧ k = 21 then (4, true) else (0, false)
theorem next_eq (n : Nat) (s k : Int) : standing_Next.f (n + 5) s k = some (nx s k) := by
  unfold standing_Next.f
  simp only [standing_Next.j0, standing_Next.j1, standing_Next.j2, standing_Next.j3, nx]
  by_cases h0 : s = 0
  · subst h0; by_cases h : k = 1 <;> simp [h]
  · by_cases h1 : s = 1
    · subst h1; by_cases h : k = 11 <;> simp [h]
    · by_cases h2 : s = 2
      · subst h2; by_cases h : k = 12
        · simp [h]
        · by_cases h' : k = 13 <;> simp [h, h']
      · by_cases h3 : s = 3
        · subst h3; by_cases h : k = 21 <;> simp [h]
        · simp [h0, h1, h2, h3]
theorem next_ev {n : Nat} (h : 5 ≤ n) (s k : Int) : standing_Next.f n s k = some (nx s k) := by
  obtain ⟨m, rfl⟩ : ∃ m, n = m + 5 := ⟨n - 5, by omega⟩
  exact next_eq m s k

theorem ref_eq (n : Nat) (s k : Int) : novationref10_NextStatus.f (n + 5) s k = some (nx s k) := by
  unfold novationref10_NextStatus.f
  simp only [novationref10_NextStatus.j0, novationref10_NextStatus.j1, novationref10_NextStatus.j2, novationref10_NextStatus.j3, nx]
  by_cases h0 : s = 0
  · subst h0; by_cases h : k = 1 <;> simp [h]
  · by_cases h1 : s = 1
    · subst h1; by_cases h : k = 11 <;> simp [h]
    · by_cases h2 : s = 2
      · subst h2; by_cases h : k = 12
        · simp [h]
        · by_cases h' : k = 13 <;> simp [h, h']
      · by_cases h3 : s = 3
        · subst h3; by_cases h : k = 21 <;> simp [h]
        · simp [h0, h1, h2, h3]
theorem ref_ev {n : Nat} (h : 5 ≤ n) (s k : Int) : novationref10_NextStatus.f n s k = some (nx s k) := by
  obtain ⟨m, rfl⟩ : ∃ m, n = m + 5 := ⟨n - 5, by omega⟩
  exact ref_eq m s k

theorem known_mono {k n : Nat} (h : k ≤ n) {r : Bool} (hk : novationlaw10_known.f k = some r) : novationlaw10_known.f n = some r :=
  at_rounds (fun k => novationlaw10_known.mono k) h hk
theorem known_yes {n : Nat} (h : 40 ≤ n) : novationlaw10_known.f n = some true := known_mono h (by decide +kernel)

/-- Where kinds lead from a status on. -/
def pathFrom : Int → List Int → Int × Bool
  | s, [] => (s, true)
  | s, k :: l => if (nx s k).2 = true then pathFrom (nx s k).1 l else (0, false)
theorem rd_drop {l : List Int} {i : Nat} (h : i < l.length) : l.drop i = rd l i :: l.drop (i + 1) := by
  rw [List.drop_eq_getElem_cons h]
  simp [rd, List.getD_eq_getElem?_getD, List.getElem?_eq_getElem h]
theorem path_loop (l : List Int) (hl : l.length ≤ 1000) (d : Nat) : ∀ (k i : Nat) (s : Int), l.length - i = d → i ≤ l.length → d + 6 ≤ k →
    standing_Path.l0 k s l (l.length : Int) i = some (pathFrom s (l.drop i)) := by
  induction d with
  | zero =>
    intro k i s hd hi hk
    obtain ⟨k, rfl⟩ : ∃ m, k = m + 1 := ⟨k - 1, by omega⟩
    have : i = l.length := by omega
    subst this
    simp only [standing_Path.l0]
    rw [if_neg (by omega), List.drop_length]; rfl
  | succ d ih =>
    intro k i s hd hi hk
    obtain ⟨k, rfl⟩ : ∃ m, k = m + 1 := ⟨k - 1, by omega⟩
    have hlt : i < l.length := by omega
    simp only [standing_Path.l0]
    rw [if_pos (by omega), if_pos (by omega), if_pos (by omega), next_ev (by omega)]
    rw [rd_drop hlt]
    simp only [Option.bind_some, pathFrom]
    have hw : wrap64 ((i : Int) + 1) = ((i + 1 : Nat) : Int) := by unfold wrap64; omega
    split
    · rw [hw]; exact ih k (i + 1) _ (by omega) (by omega) (by omega)
    · rfl
theorem path_ev (l : List Int) (hl : l.length ≤ 1000) {k : Nat} (hk : l.length + 6 ≤ k) : standing_Path.f k l = some (pathFrom 0 l) := by
  unfold standing_Path.f
  have := path_loop l hl l.length k 0 0 (by omega) (by omega) (by omega)
  simpa using this
theorem pathFrom_append (l m : List Int) : ∀ s, pathFrom s (l ++ m) = if (pathFrom s l).2 = true then pathFrom (pathFrom s l).1 m else (0, false) := by
  induction l with
  | nil => intro s; simp [pathFrom]
  | cons x l ih =>
    intro s
    simp only [List.cons_append, pathFrom]
    split
    · exact ih _
    · simp
theorem pathFrom_no (l : List Int) : ∀ s, (pathFrom s l).2 = false → (pathFrom s l).1 = 0 := by
  induction l with
  | nil => intro s h; simp [pathFrom] at h
  | cons x l ih =>
    intro s h
    simp only [pathFrom] at h ⊢
    split
    · rename_i h'
      rw [if_pos h'] at h
      exact ih _ h
    · rfl
theorem u8_nonneg {x : Int} (h : (Lit.int .u8 x).wf = true) : 0 ≤ x := by
  simp [Lit.wf, show IntKind.u8.min = 0 from by decide] at h
  exact h.1
theorem mod5 (x : Int) (h : (Lit.int .u8 x).wf = true) : 0 ≤ x.tmod 5 ∧ x.tmod 5 < 5 := by
  have hx : 0 ≤ x := by
    have h1 := u8_nonneg h
    omega
  rw [Int.tmod_eq_emod_of_nonneg hx]
  omega
theorem wf_rd {l : List Int} {i : Nat} (h : i < l.length) {k : IntKind} (hw : ∀ x ∈ l, (Lit.int k x).wf = true) : (Lit.int k (rd l i)).wf = true := by
  have : rd l i = l[i] := by simp [rd, List.getD_eq_getElem?_getD, List.getElem?_eq_getElem h]
  rw [this]; exact hw _ (List.getElem_mem h)

theorem ref_loop (l : List Int) (hl : l.length ≤ 1000) (d : Nat) : ∀ (k i : Nat) (s : Int), l.length - i = d → i ≤ l.length → d + l.length + 8 ≤ k → pathFrom 0 l = pathFrom s (l.drop i) →
    novationlaw10_StandingPaths.l1 k l s true i = some true := by
  induction d with
  | zero =>
    intro k i s hd hi hk hp
    obtain ⟨k, rfl⟩ : ∃ m, k = m + 1 := ⟨k - 1, by omega⟩
    have : i = l.length := by omega
    subst this
    simp only [novationlaw10_StandingPaths.l1]
    rw [if_neg (by omega), path_ev l hl (by omega), hp, List.drop_length]
    simp [pathFrom]
  | succ d ih =>
    intro k i s hd hi hk hp
    obtain ⟨k, rfl⟩ : ∃ m, k = m + 1 := ⟨k - 1, by omega⟩
    have hlt : i < l.length := by omega
    have hw : wrap64 ((i : Int) + 1) = ((i + 1 : Nat) : Int) := by unfold wrap64; omega
    simp only [novationlaw10_StandingPaths.l1]
    rw [if_pos (by omega), if_pos trivial, if_pos (by omega), ref_ev (by omega)]
    simp only [Option.bind_some]
    rw [hw]
    rw [rd_drop hlt] at hp
    simp only [pathFrom] at hp
    cases hb : (nx s (rd l i)).2 with
    | true =>
      rw [if_pos hb] at hp
      exact ih k (i + 1) _ (by omega) (by omega) (by omega) hp
    | false =>
      rw [if_neg (by simp [hb])] at hp
      obtain ⟨k, rfl⟩ : ∃ m, k = m + 1 := ⟨k - 1, by omega⟩
      have h0 : (nx s (rd l i)).1 = 0 := by
        revert hb; unfold nx; repeat' split
        all_goals simp
      simp only [novationlaw10_StandingPaths.l1]
      rw [h0]
      by_cases hz : ((i + 1 : Nat) : Int) < (l.length : Int)
      · rw [if_pos hz, if_neg (by simp), path_ev l hl (by omega), hp]; simp
      · rw [if_neg hz, path_ev l hl (by omega), hp]; simp
theorem make_loop (ks : List Int) (hks : ks.length ≤ 200) (hu : ∀ x ∈ ks, (Lit.int .u8 x).wf = true) (d : Nat) : ∀ (k i : Nat) (l : List Int), ks.length - i = d → i ≤ ks.length → l.length ≤ 200 + i → d + 1500 ≤ k →
    novationlaw10_StandingPaths.l0 k ks l i = some true := by
  induction d with
  | zero =>
    intro k i l hd hi hl hk
    obtain ⟨k, rfl⟩ : ∃ m, k = m + 1 := ⟨k - 1, by omega⟩
    simp only [novationlaw10_StandingPaths.l0]
    rw [if_neg (by omega)]
    exact ref_loop l (by omega) l.length k 0 0 (by omega) (by omega) (by omega) (by simp)
  | succ d ih =>
    intro k i l hd hi hl hk
    obtain ⟨k, rfl⟩ : ∃ m, k = m + 1 := ⟨k - 1, by omega⟩
    have hlt : i < ks.length := by omega
    have hw : wrap64 ((i : Int) + 1) = ((i + 1 : Nat) : Int) := by unfold wrap64; omega
    obtain ⟨m0, m1⟩ := mod5 (rd ks i) (wf_rd hlt hu)
    simp only [novationlaw10_StandingPaths.l0]
    rw [if_pos (by omega)]
    simp only [Option.bind_some]
    rw [if_pos (by omega), if_pos (by omega), if_pos (by simpa using m1), if_pos (by omega), hw]
    exact ih k (i + 1) _ (by omega) (by omega) (by simp; omega) (by omega)
theorem StandingPaths : novationlaw10_StandingPaths.Pure := by
  intro l ks _ _ _ _ _ hu
  refine ⟨2000, ?_⟩
  unfold novationlaw10_StandingPaths.f
  rw [known_yes (by omega)]
  simp only [Option.bind_some, if_true]
  by_cases h1 : (l.length : Int) > 200
  · rw [if_pos h1]; simp [novationlaw10_StandingPaths.j0]
  · rw [if_neg h1]
    by_cases h2 : (ks.length : Int) > 200
    · rw [decide_eq_true h2]; simp [novationlaw10_StandingPaths.j0]
    · rw [decide_eq_false h2]
      simp only [novationlaw10_StandingPaths.j0, Option.bind_some]
      rw [if_neg (by simp), if_pos (by simp; omega)]
      exact make_loop ks (by omega) hu ks.length 1999 0 _ (by omega) (by omega) (by simp; omega) (by omega)

end Go.Proofs.Ytmeppmmdlpkniaa.Pure
