import Derived.Test.YtdhedlkfpdakpaaN2
/-! Plain laws of events: which may be, their bytes. Nothing of the program. -/
set_option linter.unusedVariables false
set_option linter.unusedSimpArgs false
namespace Go.Ab
structure E8 where
  k : Int
  m : Int
  a : Int
  i : Int
  s : Int
  d : Int
  q : Int
  p : Int
  deriving DecidableEq
def E8.cs (e : E8) : List AV := [.int .i64 e.k, .int .i64 e.m, .int .i64 e.a, .int .i64 e.i, .int .i64 e.s, .int .i64 e.d, .int .i64 e.q, .int .i64 e.p]
/-- The letters of a kind's fields. -/
def fld (k : Int) : List Int :=
  if k = 1 ∨ k = 11 ∨ k = 12 ∨ k = 13 then [77] else if k = 2 then [77, 65, 83] else if k = 3 ∨ k = 4 ∨ k = 6 then [65, 81] else if k = 5 ∨ k = 22 then [77, 81]
  else if k = 7 then [65, 73, 83, 81, 80] else if k = 8 then [65, 68] else if k = 9 then [73, 80] else if k = 10 then [81] else if k = 14 then [77, 65]
  else if k = 17 then [65, 68, 81, 80] else if k = 19 then [77, 68, 80] else []
theorem fld_len (k : Int) : (fld k).length ≤ 5 := by
  unfold fld
  repeat' split
  all_goals decide
def isLetter (l : Int) : Prop := l = 77 ∨ l = 65 ∨ l = 73 ∨ l = 83 ∨ l = 68 ∨ l = 81 ∨ l = 80
theorem fld_letter (k : Int) : ∀ l ∈ fld k, isLetter l := by
  unfold fld
  repeat' split
  all_goals (intro l hl; first | (simp at hl; done) | (simp at hl; unfold isLetter; omega))
theorem fld_nodup (k : Int) : (fld k).Nodup := by
  unfold fld
  repeat' split
  all_goals decide
theorem fld_byt (k : Int) : Byt (fld k) := fun x hx => by
  have := fld_letter k x hx
  unfold isLetter at this; omega
theorem fld_none {k : Int} (h : k < 1 ∨ 22 < k) : fld k = [] := by
  unfold fld
  repeat' (rw [if_neg (by omega)])
/-- An event's field. -/
def gt (e : E8) (l : Int) : Int := if l = 77 then e.m else if l = 65 then e.a else if l = 73 then e.i else if l = 83 then e.s else if l = 68 then e.d else if l = 81 then e.q else e.p
/-- An event with a field. -/
def wth (e : E8) (l v : Int) : E8 :=
  if l = 77 then { e with m := v } else if l = 65 then { e with a := v } else if l = 73 then { e with i := v } else if l = 83 then { e with s := v } else if l = 68 then { e with d := v } else if l = 81 then { e with q := v } else { e with p := v }
theorem wth_kind (e : E8) (l v : Int) : (wth e l v).k = e.k := by
  unfold wth
  repeat' split
  all_goals rfl
theorem gt_wth (e : E8) (l v : Int) : gt (wth e l v) l = v := by
  unfold wth gt
  by_cases h1 : l = 77
  · simp [h1]
  by_cases h2 : l = 65
  · simp [h2]
  by_cases h3 : l = 73
  · simp [h3]
  by_cases h4 : l = 83
  · simp [h4]
  by_cases h5 : l = 68
  · simp [h5]
  by_cases h6 : l = 81
  · simp [h6]
  simp [h1, h2, h3, h4, h5, h6]
theorem gt_wth_ne (e : E8) (l m v : Int) (hl : isLetter l) (hm : isLetter m) (h : l ≠ m) : gt (wth e l v) m = gt e m := by
  rcases hl with rfl | rfl | rfl | rfl | rfl | rfl | rfl <;> rcases hm with rfl | rfl | rfl | rfl | rfl | rfl | rfl <;> first | exact absurd rfl h | rfl
/-- A field's bounds. -/
def bnd (k l : Int) : Int × Int :=
  if l = 77 then (1, 12) else if l = 65 then (1, 24) else if l = 73 then (0, 5) else if l = 83 then (1, 2) else if l = 68 then (1, 1099511627776)
  else if l = 80 then (if k = 19 then (-1152921504606846976, 1152921504606846976) else (1, 1000000000000))
  else if k = 6 then (0, 1000000000000) else if k = 10 then (1, 1000000) else if k = 7 then (1, 1000000000) else if k = 17 then (1, 1000000000) else (1, 9223372036854775807)
theorem bnd_range (k l : Int) : -9223372036854775808 ≤ (bnd k l).1 ∧ (bnd k l).2 ≤ 9223372036854775807 := by
  unfold bnd
  repeat' split
  all_goals decide
def okF (e : E8) (l : Int) : Bool := decide ((bnd e.k l).1 ≤ gt e l) && decide (gt e l ≤ (bnd e.k l).2)
def bare (k : Int) : E8 := ⟨k, 0, 0, 0, 0, 0, 0, 0⟩
/-- The event that has some letters' fields alone. -/
def own (e : E8) (ls : List Int) : E8 := ls.foldl (fun o l => wth o l (gt e l)) (bare e.k)
theorem own_snoc (e : E8) (ls : List Int) (l : Int) : own e (ls ++ [l]) = wth (own e ls) l (gt e l) := by simp [own]
/-- Which events may be. -/
def rt (e : E8) : Bool := decide (1 ≤ e.k) && (decide (e.k ≤ 22) && ((fld e.k).all (okF e) && decide (own e (fld e.k) = e)))
theorem rt_kind {e : E8} (h : rt e = true) : 1 ≤ e.k ∧ e.k ≤ 22 := by
  simp only [rt, Bool.and_eq_true, decide_eq_true_eq] at h
  exact ⟨h.1, h.2.1⟩
theorem rt_own {e : E8} (h : rt e = true) : own e (fld e.k) = e := by
  simp only [rt, Bool.and_eq_true, decide_eq_true_eq] at h
  exact h.2.2.2
theorem rt_ok {e : E8} (h : rt e = true) : ∀ l ∈ fld e.k, okF e l = true := by
  simp only [rt, Bool.and_eq_true] at h
  exact List.all_eq_true.1 h.2.2.1
theorem rt_i64 {e : E8} (h : rt e = true) : ∀ l ∈ fld e.k, I64 (gt e l) := fun l hl => by
  have h1 := rt_ok h l hl
  have h2 := bnd_range e.k l
  simp only [okF, Bool.and_eq_true, decide_eq_true_eq] at h1
  unfold I64; omega
/-- An event's numbers behind its kind. -/
def eNums (e : E8) : List Int := (fld e.k).map (gt e)
theorem eNums_i64 {e : E8} (h : rt e = true) : ∀ n ∈ eNums e, I64 n := fun n hn => by
  simp only [eNums, List.mem_map] at hn
  obtain ⟨l, hl, rfl⟩ := hn
  exact rt_i64 h l hl
/-- An event's bytes. -/
def putE (e : E8) : List Int := e.k :: encs (eNums e)
theorem putE_len (e : E8) : 0 < (putE e).length ∧ (putE e).length ≤ 51 := by
  have h1 := encs_len (eNums e)
  have h2 := fld_len e.k
  simp [putE, eNums] at h1 ⊢
  omega
theorem putE_byt {e : E8} (h : rt e = true) : Byt (putE e) := byt_cons (by have := rt_kind h; omega) (encs_byt (eNums_i64 h))
theorem putE_inj {e f : E8} (he : rt e = true) (hf : rt f = true) (h : putE e = putE f) : e = f := by
  simp only [putE, List.cons.injEq] at h
  have hn := encs_inj (eNums_i64 he) (eNums_i64 hf) h.2
  rw [← rt_own he, ← rt_own hf]
  unfold eNums at hn
  rw [h.1] at hn ⊢
  unfold own
  rw [h.1]
  have : ∀ (ls : List Int) (o : E8), ls.map (gt e) = ls.map (gt f) → ls.foldl (fun o l => wth o l (gt e l)) o = ls.foldl (fun o l => wth o l (gt f l)) o := by
    intro ls
    induction ls with
    | nil => intro o _; rfl
    | cons l ls ih =>
      intro o hm
      simp only [List.map_cons, List.cons.injEq] at hm
      simp only [List.foldl_cons]
      rw [hm.1]
      exact ih _ hm.2
  exact this _ _ hn
/-- The event of some letters and numbers. -/
def evOf (k : Int) (ls ns : List Int) : E8 := (ls.zip ns).foldl (fun o x => wth o x.1 x.2) (bare k)
theorem evOf_snoc {k : Int} {ls ns : List Int} {i : Nat} {v : Int} (hi : i < ls.length) (hn : ns.length = i) : evOf k (ls.take (i + 1)) (ns ++ [v]) = wth (evOf k (ls.take i) ns) (ls.getD i 0) v := by
  unfold evOf
  rw [List.take_add_one, List.getElem?_eq_getElem hi]
  simp only [Option.toList_some]
  rw [List.zip_append (by simp; omega)]
  simp [hi]
theorem evOf_kind (k : Int) (ls ns : List Int) : (evOf k ls ns).k = k := by
  unfold evOf
  generalize hb : bare k = o
  have hk : o.k = k := by rw [← hb]; rfl
  clear hb
  induction (ls.zip ns) generalizing o with
  | nil => exact hk
  | cons x l ih => simp only [List.foldl_cons]; exact ih _ (by rw [wth_kind]; exact hk)
/-- The numbers are its fields. -/
theorem evOf_gt {k : Int} : ∀ {ls ns : List Int}, ls.Nodup → (∀ l ∈ ls, isLetter l) → ls.length = ns.length → ls.map (gt (evOf k ls ns)) = ns := by
  intro ls ns hd hl hlen
  have key : ∀ (ls ns : List Int) (o : E8), ls.Nodup → (∀ l ∈ ls, isLetter l) → ls.length = ns.length →
      (ls.map (gt ((ls.zip ns).foldl (fun o x => wth o x.1 x.2) o)) = ns) ∧ ∀ m, isLetter m → m ∉ ls → gt ((ls.zip ns).foldl (fun o x => wth o x.1 x.2) o) m = gt o m := by
    intro ls
    induction ls with
    | nil => intro ns o _ _ h; cases ns <;> simp_all
    | cons l ls ih =>
      intro ns o hd hl hlen
      cases ns with
      | nil => simp at hlen
      | cons n ns =>
        obtain ⟨h1, h2⟩ := List.nodup_cons.1 hd
        obtain ⟨g1, g2⟩ := ih ns (wth o l n) h2 (fun m hm => hl m (by simp [hm])) (by simpa using hlen)
        simp only [List.zip_cons_cons, List.foldl_cons, List.map_cons]
        refine ⟨?_, fun m hm hn => ?_⟩
        · rw [g1, g2 l (hl l (by simp)) h1, gt_wth]
        · rw [g2 m hm (fun h => hn (by simp [h])), gt_wth_ne _ _ _ _ (hl l (by simp)) hm (fun h => hn (by simp [h]))]
  exact (key ls ns (bare k) hd hl hlen).1
theorem own_evOf (e : E8) (ls : List Int) : own e ls = evOf e.k ls (ls.map (gt e)) := by
  unfold own evOf
  have : ∀ (ls : List Int) (o : E8), ls.foldl (fun o l => wth o l (gt e l)) o = (ls.zip (ls.map (gt e))).foldl (fun o x => wth o x.1 x.2) o := by
    intro ls
    induction ls with
    | nil => intro o; rfl
    | cons l ls ih => intro o; simp only [List.foldl_cons, List.map_cons, List.zip_cons_cons]; exact ih _
  exact this _ _
/-- What of right events' bytes was read. -/
def SaysE (bs : List Int) (k : Int) (ns : List Int) (at_ : Nat) : Prop := ∀ e, rt e = true → putE e = bs → e.k = k ∧ ∃ M, eNums e = ns ++ M ∧ encs M = bs.drop at_
theorem saysE_0 {k : Int} {bs : List Int} (hk : bs.getD 0 0 = k) : SaysE bs k [] 1 := fun e hr h => by
  subst h
  exact ⟨by simpa [putE] using hk, eNums e, rfl, by simp [putE]⟩
theorem saysE_some {bs ns : List Int} {k : Int} {at_ kk : Nat} {n : Int} (st : Bool) (h : SaysE bs k ns at_) (hr : rdn st (bs.drop at_) 0 0 = some (n, kk)) : SaysE bs k (ns ++ [n]) (at_ + kk) := fun e hR he => by
  obtain ⟨h0, M, h1, h2⟩ := h e hR he
  have hL := eNums_i64 hR
  cases M with
  | nil =>
    rw [← h2] at hr
    cases hr
  | cons m M =>
    rw [← h2, encs_cons, rdn_one st (hL m (by rw [h1]; simp))] at hr
    simp only [Option.some.injEq, Prod.mk.injEq] at hr
    refine ⟨h0, M, by rw [h1, ← hr.1]; simp, ?_⟩
    rw [← List.drop_drop, ← h2, encs_cons, ← hr.2, List.drop_left' rfl]
theorem saysE_none {bs ns : List Int} {k : Int} {at_ : Nat} (st : Bool) (h : SaysE bs k ns at_) (hn : ns.length < (fld k).length) (hr : rdn st (bs.drop at_) 0 0 = none) : ∀ e, rt e = true → putE e ≠ bs := fun e hR he => by
  obtain ⟨h0, M, h1, h2⟩ := h e hR he
  cases M with
  | nil =>
    have := congrArg List.length h1
    simp [eNums, h0] at this
    omega
  | cons m M =>
    rw [← h2, encs_cons, rdn_one st (eNums_i64 hR m (by rw [h1]; simp))] at hr
    cases hr
theorem saysE_end {bs ns : List Int} {k : Int} {at_ : Nat} (h : SaysE bs k ns at_) (hn : ns.length = (fld k).length) : ∀ e, rt e = true → putE e = bs → e = evOf k (fld k) ns ∧ bs.length ≤ at_ := fun e hR he => by
  obtain ⟨h0, M, h1, h2⟩ := h e hR he
  have h3 := congrArg List.length h1
  simp only [eNums, h0, List.length_map, List.length_append] at h3
  obtain rfl : M = [] := List.eq_nil_of_length_eq_zero (by omega)
  have h4 := congrArg List.length h2
  simp [encs] at h4
  refine ⟨?_, by omega⟩
  rw [← rt_own hR, own_evOf, h0]
  congr 1
  rw [List.append_nil] at h1
  rw [← h1, eNums, h0]
/-- What reading of bytes tells. -/
def ReadsE (bs : List Int) (r : AV) : Prop :=
  (∃ e, r = .tuple [.agg e.cs, .int .i64 0] ∧ rt e = true ∧ putE e = bs) ∨
  (r = .tuple [.agg (bare 0).cs, .int .i64 13] ∧ ∀ e, rt e = true → putE e ≠ bs)
end Go.Ab
