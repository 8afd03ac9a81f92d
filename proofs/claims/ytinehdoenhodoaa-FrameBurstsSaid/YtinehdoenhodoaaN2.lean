import Derived.Test.YtinehdoenhodoaaN1
import Derived.Test.YtinehdoenhodoaaAb27
/-! Rows of numbers in bytes. -/
namespace Go.Ab
@[simp] theorem rowRw_z0 {H X : AH} : rowRw (H ++ X) 0 H.length = rowRw X 0 0 := rowRw_new0 (Nat.zero_le _)
@[simp] theorem rowRw_z {H X : AH} {i : Nat} : rowRw (H ++ X) 0 (H.length + i) = rowRw X 0 i := rowRw_new (Nat.zero_le _)
/-- A slice of bytes of a string. -/
theorem strN_u8s {l : List Int} (h : Byt l) : (strN l).data.toList.map (fun b => AV.int .u8 b.toNat) = u8s l := by
  rw [strN_data, List.map_map]
  unfold u8s
  refine List.map_congr_left fun x hx => ?_
  have := h x hx
  simp
  omega
theorem strN_get {l : List Int} (h : Byt l) {i : Nat} (hi : i < l.length) : ((strN l).data.toList[i]?).map (fun c => AV.int .u8 c.toNat) = some (.int .u8 (l.getD i 0)) := by
  have := congrArg (fun l => l[i]?) (strN_u8s h)
  simp only [List.getElem?_map] at this
  rw [this]
  simp [u8s, List.getElem?_eq_getElem hi]
def encs (l : List Int) : List Int := (l.map enc).flatten
theorem encs_app (a b : List Int) : encs (a ++ b) = encs a ++ encs b := by simp [encs]
theorem encs_one (n : Int) : encs [n] = enc n := by simp [encs]
theorem encs_cons (n : Int) (l : List Int) : encs (n :: l) = enc n ++ encs l := by simp [encs]
theorem encs_take {l : List Int} {i : Nat} (hi : i < l.length) : encs (l.take (i + 1)) = encs (l.take i) ++ enc (l.getD i 0) := by
  rw [List.take_add_one, List.getElem?_eq_getElem hi, encs_app]
  simp [encs, hi]
theorem encs_len : ∀ (l : List Int), (encs l).length ≤ 10 * l.length
  | [] => by simp [encs]
  | n :: l => by
    have h1 := encs_len l
    have h2 := (enc_len n).2
    rw [encs_cons]
    simp; omega
theorem encs_byt {l : List Int} (h : ∀ n ∈ l, I64 n) : Byt (encs l) := fun x hx => by
  simp only [encs, List.mem_flatten, List.mem_map] at hx
  obtain ⟨_, ⟨n, hn, rfl⟩, hx⟩ := hx
  exact enc_byt (h n hn) x hx
theorem encs_nil_iff {l : List Int} (h : encs l = []) : l = [] := by
  cases l with
  | nil => rfl
  | cons n l =>
    rw [encs_cons] at h
    have := (enc_len n).1
    simp at h
    rw [h.1] at this
    simp at this
theorem encs_inj : ∀ {a b : List Int}, (∀ n ∈ a, I64 n) → (∀ n ∈ b, I64 n) → encs a = encs b → a = b
  | [], b, _, _, h => (encs_nil_iff h.symm).symm
  | x :: a, b, ha, hb, h => by
    cases b with
    | nil => exact encs_nil_iff h
    | cons y b =>
      rw [encs_cons, encs_cons] at h
      have h1 := rdn_one true (ha x (by simp)) (encs a)
      rw [h, rdn_one true (hb y (by simp))] at h1
      simp only [Option.some.injEq, Prod.mk.injEq] at h1
      rw [h1.1] at h ⊢
      rw [encs_inj (fun n hn => ha n (by simp [hn])) (fun n hn => hb n (by simp [hn])) (List.append_cancel_left h)]
theorem own_step {bs l : List Int} {at_ kk : Nat} {v : Int} (hB : Byt bs) (h : encs l = bs.take at_) (hr : rdn true (bs.drop at_) 0 0 = some (v, kk)) : encs (l ++ [v]) = bs.take (at_ + kk) := by
  obtain ⟨h1, h2, h3⟩ := rdn_own (hB.drop at_) hr
  rw [encs_app, encs_one, h, List.take_add]
  congr 1
  rw [h3, h2, List.take_left' rfl]
end Go.Ab
