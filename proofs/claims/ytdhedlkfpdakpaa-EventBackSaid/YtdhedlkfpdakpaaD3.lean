import Derived.Test.YtdhedlkfpdakpaaD1
import Derived.Test.YtdhedlkfpdakpaaN2
/-! Configs, as data: which are right. -/
set_option linter.unusedVariables false
set_option linter.unusedSimpArgs false
namespace Go.Proofs.Ytdhedlkfpdakpaa.T
open Go Go.Ab
structure I4 where
  b : Int
  p : Int
  r : Int
  s : Int
  deriving DecidableEq
def I4.cs (x : I4) : List AV := [.int .i64 x.b, .int .i64 x.p, .int .i64 x.r, .int .i64 x.s]
structure Cf where
  ins : List I4
  skin : Int
  times : Int
  port : Int
  bid : Int
  lot : Int
  hmin : Int
  deriving DecidableEq
def insC (l : List I4) : List AV := (l.map I4.cs).flatten
@[simp] theorem insC_len {l : List I4} : (insC l).length = 4 * l.length := by
  unfold insC
  rw [flatten_len (sz := 4) _ (by simp only [List.mem_map]; rintro _ ⟨a, _, rfl⟩; rfl), List.length_map, Nat.mul_comm]
abbrev SI (H : AH) (v : AV) (l : List I4) : Prop := SL H 4 v (insC l)
section
variable {k : Nat} {H : AH} {v : AV} {l : List I4}
theorem SI.form (h : SI H v l) : ∃ a c s, v = .slice a l.length c s := by
  have := sle_form (es := l.map I4.cs) h (by simp only [List.mem_map]; rintro _ ⟨a, _, rfl⟩; rfl) (by omega)
  simpa using this
theorem SI.get (h : SI H v l) {i : Nat} {x : I4} (hx : l[i]? = some x) : ∃ b o c r, v = .slice (some (b, o)) l.length c 4 ∧ rowOf H b = some r ∧ o + i * 4 + 4 ≤ r.length ∧ (r.drop (o + i * 4)).take 4 = x.cs ∧ ∀ j, j < 4 → r[o + i * 4 + j]? = x.cs[j]? := by
  have := sle_get (es := l.map I4.cs) h (by simp only [List.mem_map]; rintro _ ⟨a, _, rfl⟩; rfl) (by omega) (i := i) (x := x.cs) (by simp [hx])
  simpa using this
def Cf.cs (c : Cf) (v : AV) : List AV := [v, .int .i64 c.skin, .int .i64 c.times, .int .i64 c.port, .int .i64 c.bid, .int .i64 c.lot, .int .i64 c.hmin]
def inB (n lo hi : Int) : Bool := decide (lo ≤ n) && decide (n ≤ hi)
def rightI (x : I4) : Bool := inB x.b 0 3 && (inB x.p 1 1000000000000 && (inB x.r 0 1000000000 && inB x.s 0 1000000000))
def rightR (c : Cf) : Bool := decide (0 ≤ c.skin) && (inB c.times 0 4 && (inB c.port 0 1000000 && (inB c.bid 0 1000000 && (inB c.lot 1 4611686018427387904 && decide (0 ≤ c.hmin)))))
/-- Which may be. -/
def rightC (c : Cf) : Bool := inB c.ins.length 1 6 && (c.ins.all rightI && rightR c)
theorem all_take {p : I4 → Bool} {l : List I4} {i : Nat} {x : I4} (hx : l[i]? = some x) : (l.take (i + 1)).all p = ((l.take i).all p && p x) := by
  rw [List.take_add_one, hx]
  simp only [Option.toList_some, List.all_append, List.all_cons, List.all_nil, Bool.and_true]
theorem all_not {p : I4 → Bool} {l : List I4} {i : Nat} {x : I4} (hx : l[i]? = some x) (h : p x = false) : l.all p = false := by
  have hi := (List.getElem?_eq_some_iff.1 hx)
  obtain ⟨hi, rfl⟩ := hi
  cases e : l.all p with
  | false => rfl
  | true => exact absurd (List.all_eq_true.1 e _ (List.getElem_mem hi)) (by simp [h])
theorem get_d {l : List I4} {i : Nat} (hi : i < l.length) : l[i]? = some l[i] := List.getElem?_eq_getElem hi
theorem i64_in {n lo hi : Int} (h : inB n lo hi = true) (h1 : -9223372036854775808 ≤ lo) (h2 : hi ≤ 9223372036854775807) : I64 n := by
  simp [inB] at h
  unfold I64; omega
theorem right_len {c : Cf} (h : rightC c = true) : 1 ≤ c.ins.length ∧ c.ins.length ≤ 6 := by
  simp only [rightC, Bool.and_eq_true] at h
  have := h.1
  simp [inB] at this
  omega
/-- What is beyond the bounds but for Skin and HedgeMin, of which only the lower bound is asked. -/
def FitC (c : Cf) : Prop := I64 c.skin ∧ I64 c.hmin
end
end Go.Proofs.Ytdhedlkfpdakpaa.T
