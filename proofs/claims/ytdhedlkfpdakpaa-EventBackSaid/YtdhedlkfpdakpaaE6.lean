import Derived.Test.YtdhedlkfpdakpaaE5
import Derived.Test.YtdhedlkfpdakpaaD2
/-! EventPuts, EventNumbers. -/
set_option linter.unusedVariables false
set_option linter.unusedSimpArgs false
set_option maxHeartbeats 4000000
set_option maxRecDepth 100000
namespace Go.Proofs.Ytdhedlkfpdakpaa.T
open Go Go.Ab
section
variable {k : Nat} {H : AH}
theorem eventPuts_ok {e : E8} {n : Int} : Hx (callA ap (k + 100) (.func 3 [] []) [.agg e.cs, .int .i64 n] 0 H) fun r => r.1 = .bool true ∧ Chg [] H r.2 := by
  rw [hx_go fn3 rfl, b3]
  simp [f3, b3, E8.cs, known_ok]
  obtain ⟨G, eG⟩ : ∃ G, G = H ++ [.cells e.cs .rw] := ⟨_, rfl⟩
  have cG : Chg [] H G := by rw [eG]; exact .app _ _
  have r0 : G[H.length]? = some (.cells e.cs .rw) := by rw [eG]; simp
  simp only [E8.cs] at eG
  rw [← eG]
  refine Hx.mapp (put_ok (e := e)) ?_
  rintro ⟨r, H1⟩ ⟨x, er, nx⟩
  simp only at er nx
  subst er
  have q1 := rowOf_rw (nx.2.1.get r0 (by simp))
  simp only [E8.cs] at q1
  simp [q1]
  refine Hx.mapp (rput_ok (e := e)) ?_
  rintro ⟨r, H2⟩ ⟨y, er, ny⟩
  simp only at er ny
  subst er
  simp
  refine hx_drawn dc3_5 fun H3 c3 hl3 hd3 => ?_
  have c23 := (nx.2.1.tr ny.2.1).tr c3
  have q3 := rowOf_rw (c23.get r0 (by simp))
  simp only [E8.cs] at q3
  simp [d3_5, q3]
  refine Hx.mapp (right_ok (e := e)) ?_
  rintro ⟨r, H4⟩ ⟨er, c4⟩
  simp only at er c4
  subst er
  have q4 := rowOf_rw ((c23.tr c4).get r0 (by simp))
  simp only [E8.cs] at q4
  simp [q4]
  refine Hx.mapp (rright_ok (e := e)) ?_
  rintro ⟨r, H5⟩ ⟨er, c5⟩
  simp only at er c5
  subst er
  have tx := toStr_b8 (((((nx.1.keep ny.2.1).keep c3).keep c4).keep c5))
  have ty := toStr_b8 ((((ny.1.keep c3).keep c4).keep c5))
  simp [eqV, tx, ty, fields_ok, rfields_ok, q4]
  exact (((cG.tr c23).tr c4).tr c5)
theorem eventNumbers_ok {v : AV} {bs : List Int} {n : Int} (hb : B8 H v bs) (hB : Byt bs) (hn : I64 n) : Hx (callA ap (k + 100) (.func 8 [] []) [v, .int .i64 n] 0 H) fun r => r.1 = .bool true := by
  rw [hx_go fn8 rfl, b8]
  obtain ⟨a, c, s, rfl⟩ := hb.len8
  by_cases h1 : 100 < bs.length
  · have h1' : (100 : Int) < (bs.length : Int) := by omega
    simp [f8, b8, known_ok, h1, h1']
  have h1' : ¬ (100 : Int) < (bs.length : Int) := by omega
  have ow : Mine (H ++ [.cells [] .rw]) 1 (.slice (some (H.length, 0)) 0 (some 0) 1) [] := .row _ 0 _ [] _ Nat.one_pos (by simp) (by simp) (by simp) (by simp)
  simp [f8, b8, known_ok, h1, h1']
  refine Hx.mapp (ow.append (hb.keep (.app _ _)) Nat.one_pos Nat.one_pos u8s_one (by simp; unfold room; omega)) ?_
  rintro ⟨w, H2⟩ ⟨m2, c2, k2⟩
  simp only [List.nil_append] at m2 c2 k2
  have n2 : New8 H H2 w bs := ⟨m2, (Chg.app _ _).trans c2 (by simp), fun i hi => by rcases k2 i hi with h | h <;> simp at h <;> omega⟩
  simp
  have nk := n2.keep (.app H2 [.cells [.int .u8 7, .int .u8 7] .rw])
  refine Hx.mapp (nk.1.append (b8_new (cs := [7, 7]) rfl rfl (by simp)) Nat.one_pos Nat.one_pos u8s_one (by simp; unfold room; omega)) ?_
  rintro ⟨w3, H3⟩ ⟨m3, c3, k3⟩
  simp only at m3 c3 k3
  rw [← u8s_app] at m3
  have n3 : New8 H H3 w3 (bs ++ [7, 7]) := nk.to m3 c3 k3
  have cH3 := n3.2.1
  obtain ⟨b3, cp, l3, e3, g1, g2, g3, g4⟩ : ∃ b cp l, w3 = .slice (some (b, 0)) (bs.length + 2) cp 1 ∧ H3[b]? = some (.cells l .rw) ∧ bs.length + 2 ≤ l.length ∧ l.take (bs.length + 2) = u8s (bs ++ [7, 7]) ∧ ∀ q, cp = some q → l.length = q := by
    obtain ⟨a', c', s', e'⟩ := m3.sl.len8
    generalize hcs : u8s (bs ++ [7, 7]) = cs at m3
    cases m3 with
    | nil c s => injection e' with _ e' _ _; simp at e'
    | row b n c l cs hz h1 h2 h3 h4 =>
      injection e' with _ e' _ _
      simp at e'
      subst e'
      exact ⟨b, c, l, rfl, h1, by omega, by simpa using h3, fun q hq => by simpa using h4 q hq⟩
  subst e3
  have a1 : aslice H3 1 (.slice (some (b3, 0)) (bs.length + 2) cp 1) none (some (.int .i64 bs.length)) none = some (.slice (some (b3, 0)) bs.length cp 1) := by
    cases cp with
    | none => simp [aslice, abound_of (k := .i64) (rfl : (bs.length : Int) = bs.length) (by omega : bs.length ≤ bs.length + 2), Option.orElse]
    | some q => simp [aslice, abound_of (k := .i64) (rfl : (bs.length : Int) = bs.length) (by have := g4 q rfl; omega : bs.length ≤ q)]
  have sc : B8 H3 (.slice (some (b3, 0)) bs.length cp 1) bs := by
    refine .at_ b3 0 _ _ l3 _ Nat.one_pos (rowOf_rw g1) (by omega) ?_ (fun q hq => by have := g4 q hq; omega)
    have := congrArg (List.take bs.length) g3
    rw [List.take_take, Nat.min_eq_left (by omega)] at this
    simpa [u8s] using this
  simp [a1]
  refine Hx.mapp (number_ok sc (by omega) hn) ?_
  rintro ⟨x, H4⟩ nx
  simp only at nx
  simp
  refine hx_drawn dc8_7 fun H5 c5 hl5 hd5 => ?_
  have c35 := nx.2.1.tr c5
  have tx := toStr_b8 (nx.1.sl.keep c5)
  simp [d8_7, tx]
  refine Hx.mapp (rnumber_ok (n := n) (hb.keep (cH3.tr c35)) (by omega) hn) ?_
  rintro ⟨y, H6⟩ ny
  simp only at ny
  have ty := toStr_b8 ny.1.sl
  have tx6 := toStr_b8 ((nx.1.sl.keep c5).keep ny.2.1)
  have c36 := c35.tr ny.2.1
  have h6 := c36.get g1 (by simp)
  have tb := toStr_b8 (hb.keep (cH3.tr c36))
  have w2 : IntKind.i64.wrap ((bs.length : Int) + 2) = ((bs.length + 2 : Nat) : Int) := by rw [wrap_i64 (by omega) (by omega)]; omega
  have a2 : aslice H6 1 (.slice (some (b3, 0)) bs.length cp 1) none (some (.int .i64 (bs.length + 2))) none = some (.slice (some (b3, 0)) (bs.length + 2) cp 1) := by
    have e2 : ((bs.length : Int) + 2) = ((bs.length + 2 : Nat) : Int) := by omega
    rw [e2]
    cases cp with
    | none =>
      have z1 : abound bs.length (.int .i64 ((bs.length + 2 : Nat) : Int)) = none := by simp only [abound]; rw [if_neg (by omega)]
      have z2 : abound l3.length (.int .i64 ((bs.length + 2 : Nat) : Int)) = some (bs.length + 2) := abound_of rfl g2
      simp only [aslice, z1, rowOf_rw h6, z2, Option.orElse, Option.bind_some]
      simp [g2]
    | some q =>
      have z1 : abound q (.int .i64 ((bs.length + 2 : Nat) : Int)) = some (bs.length + 2) := abound_of rfl (by have := g4 q rfl; omega)
      simp only [aslice, z1, Option.bind_some]
      simp
  have s2 : B8 H6 (.slice (some (b3, 0)) (bs.length + 2) cp 1) (bs ++ [7, 7]) := .at_ b3 0 _ _ l3 _ Nat.one_pos (rowOf_rw h6) (by omega) (by simpa using g3) (fun q hq => by have := g4 q hq; omega)
  have t2 := toStr_b8 s2
  have t7 : (⟨#[7, 7]⟩ : ByteArray) = strN [7, 7] := by decide
  have hB7 : Byt (bs ++ [7, 7]) := hB.app (byt_cons (by omega) (byt_cons (by omega) byt_nil))
  rw [show ((bs.length + 2 : Nat) : Int) = (bs.length : Int) + 2 by omega] at w2
  have hs : ¬ (9223372036854775807 : Int) < (bs.length : Int) + 2 := by omega
  simp [ty, tx6, w2, a2, t2, tb, t7, strN_cat, strN_size, strN_beq hB7 hB7, hs]
end
end Go.Proofs.Ytdhedlkfpdakpaa.T
