import Derived.Test.YtdhedlkfpdakpaaD1
import Derived.Test.YtdhedlkfpdakpaaAb26
/-! Arguments of a law: a row of uint64. -/
set_option linter.unusedVariables false
set_option linter.unusedSimpArgs false
namespace Go.Proofs.Ytdhedlkfpdakpaa.T
open Go Go.Ab
theorem ar_u64s {m : Nat} {H : AH} {t e : Nat} {ti te : TI} {al : List AV} (h : AR ap m H t al) (ht : ap.ty t = some ti) (htd : ti.td = .slice e) (he : ap.ty e = some te) (hed : te.td = .int .u64) (hes : te.sz = 1) :
    ∃ v L, al = [v] ∧ SL H 1 v (u64s L) ∧ ∀ x ∈ L, U64 x := by
  obtain ⟨v, es, m2, rfl, hs, hx⟩ := ar_slice h ht htd he
  rw [hes] at hs
  obtain ⟨l, hl, hq⟩ := list_choose (R := fun (x : List AV) (a : Int) => x = [.int .u64 a] ∧ U64 a) es (fun x hm => by
    obtain ⟨z, rfl, w⟩ := ar_int (hx x hm).2 he hed
    refine ⟨z, rfl, ?_⟩
    simp [Lit.wf, IntKind.has, IntKind.min, IntKind.max, IntKind.bits, IntKind.signed] at w
    unfold U64; omega)
  have hes : es.flatten = u64s l := by
    have : es = l.map fun a => [AV.int .u64 a] := by
      refine List.ext_getElem? fun i => ?_
      rw [List.getElem?_map]
      by_cases hi : i < es.length
      · have := hq i es[i] l[i] (List.getElem?_eq_getElem hi) (List.getElem?_eq_getElem (by omega))
        rw [List.getElem?_eq_getElem hi, List.getElem?_eq_getElem (by omega), this.1]
        rfl
      · rw [List.getElem?_eq_none (by omega), List.getElem?_eq_none (by omega)]
        rfl
    rw [this]
    unfold u64s
    clear hs hq hl hx this
    induction l with
    | nil => rfl
    | cons x l ih => simp only [List.map_cons, List.flatten_cons, List.singleton_append]; rw [ih]
  refine ⟨v, l, rfl, by rw [hes] at hs; exact hs, fun x hm => ?_⟩
  obtain ⟨i, hi⟩ := List.getElem?_of_mem hm
  have hil : i < l.length := (List.getElem?_eq_some_iff.1 hi).1
  exact (hq i _ _ (List.getElem?_eq_getElem (by omega : i < es.length)) hi).2
theorem wf_u8 {z : Int} (h : (Lit.int .u8 z).wf = true) : 0 ≤ z ∧ z < 256 := by
  simp [Lit.wf, IntKind.has, IntKind.min, IntKind.max, IntKind.bits, IntKind.signed] at h
  omega
theorem wf_i64' {z : Int} (h : (Lit.int .i64 z).wf = true) : I64 z := by
  simp [Lit.wf, IntKind.has, IntKind.min, IntKind.max, IntKind.bits, IntKind.signed] at h
  unfold I64; omega
end Go.Proofs.Ytdhedlkfpdakpaa.T
