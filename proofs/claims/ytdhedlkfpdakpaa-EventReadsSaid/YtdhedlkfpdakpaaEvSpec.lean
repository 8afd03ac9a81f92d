import Derived.Test.YtdhedlkfpdakpaaEvNum
/-! Plain laws of events: which may be, their bytes. Nothing of the program. -/
namespace Go.Proofs.Ytdhedlkfpdakpaa.Ev
open Go.RowKit Go.Proofs.YtdhedlkfpdakpaaW.PrintWords

abbrev T8 := Int × Int × Int × Int × Int × Int × Int × Int
def eq8 (a b : T8) : Bool := (a.1 == b.1 && (a.2.1 == b.2.1 && (a.2.2.1 == b.2.2.1 && (a.2.2.2.1 == b.2.2.2.1 && (a.2.2.2.2.1 == b.2.2.2.2.1 && (a.2.2.2.2.2.1 == b.2.2.2.2.2.1 && (a.2.2.2.2.2.2.1 == b.2.2.2.2.2.2.1 && (a.2.2.2.2.2.2.2 == b.2.2.2.2.2.2.2))))))))
theorem eq8_iff (a b : T8) : eq8 a b = true ↔ a = b := by
  obtain ⟨a0, a1, a2, a3, a4, a5, a6, a7⟩ := a
  obtain ⟨b0, b1, b2, b3, b4, b5, b6, b7⟩ := b
  simp [eq8]
/-- The letters of a kind's fields, as a string. -/
def fldS (k : Int) : ByteArray :=
  if k = 1 ∨ k = 11 ∨ k = 12 ∨ k = 13 then ⟨#[77]⟩ else if k = 2 then ⟨#[77, 65, 83]⟩ else if k = 3 ∨ k = 4 ∨ k = 6 then ⟨#[65, 81]⟩ else if k = 5 ∨ k = 22 then ⟨#[77, 81]⟩
  else if k = 7 then ⟨#[65, 73, 83, 81, 80]⟩ else if k = 8 then ⟨#[65, 68]⟩ else if k = 9 then ⟨#[73, 80]⟩ else if k = 10 then ⟨#[81]⟩ else if k = 14 then ⟨#[77, 65]⟩
  else if k = 17 then ⟨#[65, 68, 81, 80]⟩ else if k = 19 then ⟨#[77, 68, 80]⟩ else ⟨#[]⟩
/-- The same, as numbers. -/
def fld (k : Int) : List Int :=
  if k = 1 ∨ k = 11 ∨ k = 12 ∨ k = 13 then [77] else if k = 2 then [77, 65, 83] else if k = 3 ∨ k = 4 ∨ k = 6 then [65, 81] else if k = 5 ∨ k = 22 then [77, 81]
  else if k = 7 then [65, 73, 83, 81, 80] else if k = 8 then [65, 68] else if k = 9 then [73, 80] else if k = 10 then [81] else if k = 14 then [77, 65]
  else if k = 17 then [65, 68, 81, 80] else if k = 19 then [77, 68, 80] else []
theorem fldS_bytes (k : Int) : bytesOf (fldS k) = fld k := by
  unfold fldS fld
  by_cases h : k = 1 ∨ k = 11 ∨ k = 12 ∨ k = 13
  · rw [if_pos h, if_pos h]; rfl
  rw [if_neg h, if_neg h]; clear h
  by_cases h : k = 2
  · rw [if_pos h, if_pos h]; rfl
  rw [if_neg h, if_neg h]; clear h
  by_cases h : k = 3 ∨ k = 4 ∨ k = 6
  · rw [if_pos h, if_pos h]; rfl
  rw [if_neg h, if_neg h]; clear h
  by_cases h : k = 5 ∨ k = 22
  · rw [if_pos h, if_pos h]; rfl
  rw [if_neg h, if_neg h]; clear h
  by_cases h : k = 7
  · rw [if_pos h, if_pos h]; rfl
  rw [if_neg h, if_neg h]; clear h
  by_cases h : k = 8
  · rw [if_pos h, if_pos h]; rfl
  rw [if_neg h, if_neg h]; clear h
  by_cases h : k = 9
  · rw [if_pos h, if_pos h]; rfl
  rw [if_neg h, if_neg h]; clear h
  by_cases h : k = 10
  · rw [if_pos h, if_pos h]; rfl
  rw [if_neg h, if_neg h]; clear h
  by_cases h : k = 14
  · rw [if_pos h, if_pos h]; rfl
  rw [if_neg h, if_neg h]; clear h
  by_cases h : k = 17
  · rw [if_pos h, if_pos h]; rfl
  rw [if_neg h, if_neg h]; clear h
  by_cases h : k = 19
  · rw [if_pos h, if_pos h]; rfl
  rw [if_neg h, if_neg h]; clear h
  rfl
theorem fldS_size (k : Int) : (fldS k).size = (fld k).length := by rw [← fldS_bytes, bytesOf_length]
theorem fld_len (k : Int) : (fld k).length ≤ 5 := by
  unfold fld
  repeat' split
  all_goals decide
def isLetter (l : Int) : Prop := l = 77 ∨ l = 65 ∨ l = 73 ∨ l = 83 ∨ l = 68 ∨ l = 81 ∨ l = 80
theorem fld_letter (k : Int) : ∀ l ∈ fld k, isLetter l := by
  unfold fld
  repeat' split
  all_goals (intro l hl; first | (simp at hl; done) | (simp at hl; unfold isLetter; omega))
theorem fld_nodup (k : Int) : (fld k).Nodup := by
  unfold fld
  repeat' split
  all_goals decide
/-- An event's field. -/
def gt (e : T8) (l : Int) : Int := if l = 77 then e.2.1 else if l = 65 then e.2.2.1 else if l = 73 then e.2.2.2.1 else if l = 83 then e.2.2.2.2.1 else if l = 68 then e.2.2.2.2.2.1 else if l = 81 then e.2.2.2.2.2.2.1 else e.2.2.2.2.2.2.2
/-- An event with a field. -/
def wth (e : T8) (l v : Int) : T8 :=
  if l = 77 then (e.1, v, e.2.2.1, e.2.2.2.1, e.2.2.2.2.1, e.2.2.2.2.2.1, e.2.2.2.2.2.2.1, e.2.2.2.2.2.2.2)
  else if l = 65 then (e.1, e.2.1, v, e.2.2.2.1, e.2.2.2.2.1, e.2.2.2.2.2.1, e.2.2.2.2.2.2.1, e.2.2.2.2.2.2.2)
  else if l = 73 then (e.1, e.2.1, e.2.2.1, v, e.2.2.2.2.1, e.2.2.2.2.2.1, e.2.2.2.2.2.2.1, e.2.2.2.2.2.2.2)
  else if l = 83 then (e.1, e.2.1, e.2.2.1, e.2.2.2.1, v, e.2.2.2.2.2.1, e.2.2.2.2.2.2.1, e.2.2.2.2.2.2.2)
  else if l = 68 then (e.1, e.2.1, e.2.2.1, e.2.2.2.1, e.2.2.2.2.1, v, e.2.2.2.2.2.2.1, e.2.2.2.2.2.2.2)
  else if l = 81 then (e.1, e.2.1, e.2.2.1, e.2.2.2.1, e.2.2.2.2.1, e.2.2.2.2.2.1, v, e.2.2.2.2.2.2.2)
  else (e.1, e.2.1, e.2.2.1, e.2.2.2.1, e.2.2.2.2.1, e.2.2.2.2.2.1, e.2.2.2.2.2.2.1, v)
theorem wth_kind (e : T8) (l v : Int) : (wth e l v).1 = e.1 := by
  unfold wth
  repeat' split
  all_goals rfl
theorem gt_wth (e : T8) (l v : Int) : gt (wth e l v) l = v := by
  unfold wth gt
  by_cases h1 : l = 77
  · simp [h1]
  by_cases h2 : l = 65
  · simp [h2]
  by_cases h3 : l = 73
  · simp [h3]
  by_cases h4 : l = 83
  · simp [h4]
  by_cases h5 : l = 68
  · simp [h5]
  by_cases h6 : l = 81
  · simp [h6]
  simp [h1, h2, h3, h4, h5, h6]
theorem gt_wth_ne (e : T8) (l m v : Int) (hl : isLetter l) (hm : isLetter m) (h : l ≠ m) : gt (wth e l v) m = gt e m := by
  rcases hl with rfl | rfl | rfl | rfl | rfl | rfl | rfl <;> rcases hm with rfl | rfl | rfl | rfl | rfl | rfl | rfl <;> first | exact absurd rfl h | rfl
/-- A field's bounds. -/
def bnd (k l : Int) : Int × Int :=
  if l = 77 then (1, 12) else if l = 65 then (1, 24) else if l = 73 then (0, 5) else if l = 83 then (1, 2) else if l = 68 then (1, 1099511627776)
  else if l = 80 then (if k = 19 then (-1152921504606846976, 1152921504606846976) else (1, 1000000000000))
  else if k = 6 then (0, 1000000000000) else if k = 10 then (1, 1000000) else if k = 7 then (1, 1000000000) else if k = 17 then (1, 1000000000) else (1, 9223372036854775807)
theorem bnd_range (k l : Int) : -9223372036854775808 ≤ (bnd k l).1 ∧ (bnd k l).2 ≤ 9223372036854775807 := by
  unfold bnd
  repeat' split
  all_goals decide
/-- All of some fields within their bounds, and the event that has them alone. -/
def rtl : List Int → T8 → T8 → Bool
  | [], e, own => eq8 own e
  | l :: ls, e, own => if gt e l < (bnd e.1 l).1 then false else if gt e l > (bnd e.1 l).2 then false else rtl ls e (wth own l (gt e l))
def bare (k : Int) : T8 := (k, 0, 0, 0, 0, 0, 0, 0)
/-- Which events may be. -/
def rt (e : T8) : Bool := if e.1 < 1 then false else if e.1 > 22 then false else rtl (fld e.1) e (bare e.1)
/-- An event with some fields of another one. -/
def fill : List Int → T8 → T8 → T8
  | [], _, own => own
  | l :: ls, e, own => fill ls e (wth own l (gt e l))
theorem rtl_iff (ls : List Int) (e : T8) : ∀ own, rtl ls e own = true ↔ (∀ l ∈ ls, (bnd e.1 l).1 ≤ gt e l ∧ gt e l ≤ (bnd e.1 l).2) ∧ fill ls e own = e := by
  induction ls with
  | nil => intro own; simp [rtl, fill, eq8_iff]
  | cons l ls ih =>
    intro own
    simp only [rtl, fill]
    split
    · rename_i h
      constructor
      · intro h'; cases h'
      · intro h'; have := h'.1 l (List.mem_cons_self ..); omega
    · split
      · rename_i h
        constructor
        · intro h'; cases h'
        · intro h'; have := h'.1 l (List.mem_cons_self ..); omega
      · rw [ih]
        constructor
        · rintro ⟨h1, h2⟩
          refine ⟨fun m hm => ?_, h2⟩
          rcases List.mem_cons.1 hm with rfl | hm
          · omega
          · exact h1 m hm
        · rintro ⟨h1, h2⟩
          exact ⟨fun m hm => h1 m (List.mem_cons_of_mem _ hm), h2⟩
theorem rt_kind (e : T8) (h : rt e = true) : 1 ≤ e.1 ∧ e.1 ≤ 22 := by
  unfold rt at h
  split at h
  · cases h
  · split at h
    · cases h
    · omega
theorem rt_all (e : T8) (h : rt e = true) : (∀ l ∈ fld e.1, (bnd e.1 l).1 ≤ gt e l ∧ gt e l ≤ (bnd e.1 l).2) ∧ fill (fld e.1) e (bare e.1) = e := by
  have hk := rt_kind e h
  unfold rt at h
  rw [if_neg (by omega), if_neg (by omega)] at h
  exact (rtl_iff _ _ _).1 h
theorem rt_range (e : T8) (h : rt e = true) : ∀ l ∈ fld e.1, -9223372036854775808 ≤ gt e l ∧ gt e l ≤ 9223372036854775807 := by
  intro l hl
  have h1 := (rt_all e h).1 l hl
  have h2 := bnd_range e.1 l
  omega
/-- An event's bytes behind its kind's. -/
def evEncs : List Int → T8 → List Int
  | [], _ => []
  | l :: ls, e => enc (gt e l) ++ evEncs ls e
/-- An event's bytes. -/
def puts (e : T8) : List Int := e.1 :: evEncs (fld e.1) e
theorem evEncs_len (ls : List Int) (e : T8) : (evEncs ls e).length ≤ 10 * ls.length := by
  induction ls with
  | nil => simp [evEncs]
  | cons l ls ih =>
    have := (enc_len (gt e l)).2
    simp [evEncs]; omega
theorem evEncs_byte (ls : List Int) (e : T8) (h : ∀ l ∈ ls, -9223372036854775808 ≤ gt e l ∧ gt e l ≤ 9223372036854775807) : ∀ x ∈ evEncs ls e, 0 ≤ x ∧ x ≤ 255 := by
  induction ls with
  | nil => intro x hx; simp [evEncs] at hx
  | cons l ls ih =>
    intro x hx
    simp only [evEncs, List.mem_append] at hx
    rcases hx with hx | hx
    · have := h l (List.mem_cons_self ..)
      exact enc_byte _ this.1 this.2 x hx
    · exact ih (fun m hm => h m (List.mem_cons_of_mem _ hm)) x hx
theorem puts_byte (e : T8) (h : rt e = true) : ∀ x ∈ puts e, 0 ≤ x ∧ x ≤ 255 := by
  intro x hx
  simp only [puts, List.mem_cons] at hx
  rcases hx with rfl | hx
  · have := rt_kind e h; omega
  · exact evEncs_byte _ _ (rt_range e h) x hx
/-- Strings of numbers that are bytes are alike just where the numbers are. -/
theorem strOfNums_eq {a b : List Int} (ha : ∀ x ∈ a, 0 ≤ x ∧ x ≤ 255) (hb : ∀ x ∈ b, 0 ≤ x ∧ x ≤ 255) : ((strOfNums a).toList == (strOfNums b).toList) = true ↔ a = b := by
  have key : ∀ l : List Int, (∀ x ∈ l, 0 ≤ x ∧ x ≤ 255) → bytesOf (strOfNums l) = l := by
    intro l hl
    simp only [bytesOf, strOfNums]
    induction l with
    | nil => rfl
    | cons x l ih =>
      have h1 := hl x (List.mem_cons_self ..)
      have h2 := ih (fun y hy => hl y (List.mem_cons_of_mem _ hy))
      simp at h2 ⊢
      refine ⟨?_, h2⟩
      omega
  constructor
  · intro h
    have h2 : strOfNums a = strOfNums b := by
      have h3 := eq_of_beq h
      rw [ByteArray.toList_eq, ByteArray.toList_eq] at h3
      exact ByteArray.ext (Array.toList_inj.1 h3)
    rw [← key a ha, ← key b hb, h2]
  · rintro rfl; simp
end Go.Proofs.Ytdhedlkfpdakpaa.Ev
