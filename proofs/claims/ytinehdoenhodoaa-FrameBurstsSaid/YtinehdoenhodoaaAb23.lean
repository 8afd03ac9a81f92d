import Derived.Test.YtinehdoenhodoaaAb22
/-! A function without arguments that was carried out once, from no memory: everywhere it tells the same. -/
set_option linter.unusedVariables false
set_option linter.unusedSimpArgs false
namespace Go.Ab
theorem Sim.calm {φ : Inj} {H : AH} {hp hp' : Array Obj} (h : Rel φ H hp) (hs : hp.size ≤ hp'.size) (hf : ∀ r, r < hp.size → hp'[r]? = hp[r]?) : Sim φ H hp φ H hp' where
  ext := Inj.le_refl φ
  new := fun _ _ e => .inl e
  rel := ⟨fun b p e => by
    obtain ⟨A, O, h1, h2, h3⟩ := h.blk b p e
    exact ⟨A, O, h1, by rw [hf _ (h.lt2 e)]; exact h2, h3⟩, h.excl⟩
  len := Nat.le_refl _
  size := hs
  frame := fun r hr _ => hf r hr
  img := fun b p A h1 h2 h3 => .inr ⟨b, p, A, h1, h2, h3, rfl⟩
  img2 := fun _ _ e => .inl e
def knownPrim (k : Nat) : Nat → Option (List AV → Nat → AH → Option (AV × AH)) := fun f => if f = k then some (fun args _ H => if args.isEmpty then some (.bool true, H) else none) else none
theorem knownOk {P : Program} {ap : AP} (hg : Agree P ap) {k n : Nat} (hp : ap.prim n = none) (h : (callA ap k (.func n [] []) [] 0 []).map (·.1) = some (.bool true)) : ∀ f g, knownPrim n f = some g → PrimOk P f g := by
  intro f g hfg
  unfold knownPrim at hfg
  split at hfg
  · rename_i hfn
    subst hfn
    cases hfg
    intro φ H w args args' lo v H' h1 hr he
    simp only at h1
    split at h1
    · rename_i hemp
      cases h1
      obtain rfl : args = [] := by simpa using hemp
      obtain rfl : args' = #[] := by
        have := he.1
        simp at this
        exact Array.eq_empty_of_size_eq_zero this.symm
      obtain ⟨⟨v0, H0⟩, e0, e1⟩ := Option.map_eq_some_iff.1 h
      simp only at e1
      subst e1
      cases k with
      | zero => simp only [callA] at e0; cases e0
      | succ k =>
        simp only [callA, hp, List.nil_append, List.append_nil] at e0
        obtain ⟨g1, g2⟩ := sound_fn hg (sound_call hg k) e0 (Rel.empty w.heap) (show ER (fun _ => none) [] #[] from ⟨rfl, fun i a v h => by simp at h⟩)
        refine ⟨g1, (callsIn_wide.1 (g2 0)).mono ?_⟩
        rintro e w' ⟨v', φ', h1, h2, h3⟩
        cases h3
        refine ⟨_, φ, h1, ⟨Sim.calm hr h2.size (fun r hr' => h2.frame r hr' fun b p A e => by cases e), h2.str⟩, .bool true⟩
    · cases h1
  · cases hfg
theorem agree_known {P : Program} {ap : AP} (hg : Agree P ap) {k n : Nat} (hp : ∀ f, ap.prim f = none) (h : (callA ap k (.func n [] []) [] 0 []).map (·.1) = some (.bool true)) : Agree P { ap with prim := knownPrim n } where
  mixed := hg.mixed
  ty := hg.ty
  fn := hg.fn
  prim := knownOk hg (hp n) h
end Go.Ab
