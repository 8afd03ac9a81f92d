import Derived.Test.YtndgfpknegoleaaC7
import Derived.Test.YtndgfpknegoleaaD2
/-! PlanDrawn. -/
set_option linter.unusedVariables false
set_option linter.unusedSimpArgs false
set_option maxHeartbeats 4000000
namespace Go.Proofs.Ytndgfpknegoleaa.T
open Go Go.Ab
theorem planDrawn_main (H : AH) (ass : List (List AV)) (hl : ass.length = [36, 5, 2].length) (ha : ∀ (i : Nat) t al, [36, 5, 2][i]? = some t → ass[i]? = some al → AR ap 6 H t al) :
    Hx (callA ap 2000 (.func 4 [] []) (List.zipWith (argA ap) [36, 5, 2] ass) 0 H) fun r => r.1 = .bool true := by
  match ass, hl with
  | [a0, a1, a2], _ =>
    obtain ⟨v, L, rfl, h0, hL⟩ := ar_u64s (ha 0 36 a0 rfl rfl) ty36 rfl ty64 rfl rfl
    obtain ⟨how, rfl, w1⟩ := ar_int (ha 1 5 a1 rfl rfl) ty5 rfl
    obtain ⟨x, rfl, w2⟩ := ar_int (ha 2 2 a2 rfl rfl) ty2 rfl
    simp only [List.zipWith_cons_cons, List.zipWith_nil_right, argA_one ty36 rfl, argA_one ty5 rfl, argA_one ty2 rfl]
    exact planDrawn_ok h0 hL (wf_u8 w1) (wf_i64' w2) (by omega)
end Go.Proofs.Ytndgfpknegoleaa.T
