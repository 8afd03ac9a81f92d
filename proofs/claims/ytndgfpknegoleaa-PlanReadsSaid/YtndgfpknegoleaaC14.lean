import Derived.Test.YtndgfpknegoleaaC13
import Derived.Test.YtndgfpknegoleaaD2
/-! PlanReads. -/
set_option linter.unusedVariables false
set_option linter.unusedSimpArgs false
set_option maxHeartbeats 4000000
set_option maxRecDepth 100000
namespace Go.Proofs.Ytndgfpknegoleaa.T
open Go Go.Ab
section
variable {k : Nat} {H : AH} {b : AV} {bs : List Int}
theorem SI.one {H : AH} {v : AV} {l : List I4} (h : SI H v l) : AV.one v = true := by obtain ⟨_, _, _, rfl⟩ := SI.form h; rfl
theorem planReads_ok (hb : B8 H b bs) (hB : Byt bs) (hk : 800 < k) :
    Hx (callA ap k (.func 5 [] []) [b] 0 H) fun r => r.1 = .bool true ∧ Chg [] H r.2 := by
  obtain ⟨k, rfl⟩ : ∃ k', k = k' + 50 := ⟨k - 50, by omega⟩
  rw [hx_call fn5 rfl]
  obtain ⟨a, c, s, rfl⟩ := hb.len8
  by_cases h3 : 300 < bs.length
  · have h3' : (300 : Int) < (bs.length : Int) := by omega
    simp [f5, b5, known_ok, h3, h3']
    exact .refl
  have h3' : ¬ (300 : Int) < (bs.length : Int) := by omega
  simp [f5, b5, known_ok, h3, h3']
  refine Hx.mapp (read_ok hb hB (by omega) (by omega)) ?_
  rintro ⟨r, H2⟩ ⟨c2, hr⟩
  simp only at c2 hr
  have key : ∀ (x : Cf) (vx : AV) (cx : Int), SI H2 vx x.ins → x.ins.length ≤ 1000000 → (cx = 0 ∧ rightC x = true ∧ FitC x ∧ putB x = bs ∨ cx = 13 ∧ x = .zero ∧ ∀ c, rightC c = true → FitC c → putB c ≠ bs) → r = .tuple [.agg (x.cs vx), .int .i64 cx] → x.ins.length < 20 →
      Hx (callA ap (k + 49) (.func 21 [] []) [.slice a bs.length c s] 0 (H2 ++ [.cells (x.cs vx) .rw])) fun q => Chg [] (H2 ++ [.cells (x.cs vx) .rw]) q.2 ∧ ∃ vy, SI q.2 vy x.ins ∧ q.1 = .tuple [.agg (x.cs vy), .int .i64 cx] := by
    intro x vx cx s1 l1 hx e l2
    refine (rread_ok (hb.keep (c2.tr (.app _ _))) hB (by omega) (by omega)).mono ?_
    rintro ⟨q, H3⟩ ⟨c3, hq⟩
    refine ⟨c3, ?_⟩
    simp only at c3 hq ⊢
    rcases hx with ⟨rfl, h1, h2, h3⟩ | ⟨rfl, rfl, h1⟩
    · rcases hq with ⟨vy, y, rfl, g1, g2, g3, g4⟩ | ⟨rfl, g1⟩
      · have := putB_inj g2 g3 h1 h2 (g4.trans h3.symm)
        subst this
        exact ⟨vy, g1, rfl⟩
      · exact absurd h3 (g1 x h1 h2)
    · rcases hq with ⟨vy, y, rfl, g1, g2, g3, g4⟩ | ⟨rfl, g1⟩
      · exact absurd g4 (h1 y g2 g3)
      · exact ⟨_, .nil _ _, rfl⟩
  obtain ⟨x, vx, cx, s1, l1, hx, e, l2⟩ : ∃ (x : Cf) (vx : AV) (cx : Int), SI H2 vx x.ins ∧ x.ins.length ≤ 1000000 ∧ (cx = 0 ∧ rightC x = true ∧ FitC x ∧ putB x = bs ∨ cx = 13 ∧ x = .zero ∧ ∀ c, rightC c = true → FitC c → putB c ≠ bs) ∧ r = .tuple [.agg (x.cs vx), .int .i64 cx] ∧ x.ins.length < 20 := by
    rcases hr with ⟨v, y, rfl, g1, g2, g3, g4⟩ | ⟨rfl, g1⟩
    · have := right_len g2
      exact ⟨y, v, 0, g1, by omega, .inl ⟨rfl, g2, g3, g4⟩, rfl, by omega⟩
    · exact ⟨.zero, _, 13, .nil _ _, by simp [Cf.zero], .inr ⟨rfl, rfl, g1⟩, rfl, by simp [Cf.zero]⟩
  have key2 := key x vx cx s1 l1 hx e l2
  subst e
  have o1 := SI.one s1
  obtain ⟨G, eG⟩ : ∃ G, G = H2 ++ [.cells (x.cs vx) .rw] := ⟨_, rfl⟩
  rw [← eG] at key2
  have r1 : G[H2.length]? = some (.cells (x.cs vx) .rw) := by rw [eG]; simp
  have cG : Chg [] H2 G := by rw [eG]; exact .app _ _
  simp only [Cf.cs] at eG
  simp [Cf.cs, o1]
  rw [← eG]
  refine Hx.mapp key2 ?_
  rintro ⟨q, H3⟩ ⟨c3, vy, s2, e⟩
  simp only at c3 s2 e
  subst e
  have o2 := SI.one s2
  obtain ⟨G2, eG2⟩ : ∃ G2, G2 = H3 ++ [.cells (x.cs vy) .rw] := ⟨_, rfl⟩
  have cG2 : Chg [] H3 G2 := by rw [eG2]; exact .app _ _
  have r2 : G2[H3.length]? = some (.cells (x.cs vy) .rw) := by rw [eG2]; simp
  have q1 := rowOf_rw (cG2.get (c3.get r1 (by simp)) (by simp))
  have q2 := rowOf_rw r2
  simp only [Cf.cs] at eG2 q1 q2
  simp [Cf.cs, o2]
  rw [← eG2]
  simp [q1, q2]
  refine Hx.mapp (rsame_ok (a := x) (b := x) (((s1.keep cG).keep c3).keep cG2) (s2.keep cG2) l1 l1 (by omega)) ?_
  rintro ⟨q, H4⟩ ⟨e, c4⟩
  simp only at e c4
  subst e
  simp
  exact ((((c2.tr cG).tr c3).tr cG2).tr c4)
end
theorem planReads_main (H : AH) (ass : List (List AV)) (hl : ass.length = [26].length) (ha : ∀ (i : Nat) t al, [26][i]? = some t → ass[i]? = some al → AR ap 6 H t al) :
    Hx (callA ap 2000 (.func 5 [] []) (List.zipWith (argA ap) [26] ass) 0 H) fun r => r.1 = .bool true := by
  match ass, hl with
  | [a0], _ =>
    obtain ⟨v, bs, rfl, h0, hB⟩ := ar_bytes (ha 0 26 a0 rfl rfl) ty26 rfl ty5 rfl rfl
    simp only [List.zipWith_cons_cons, List.zipWith_nil_right, argA_one ty26 rfl]
    exact (planReads_ok h0 hB (by omega)).mono fun r h => h.1
end Go.Proofs.Ytndgfpknegoleaa.T
