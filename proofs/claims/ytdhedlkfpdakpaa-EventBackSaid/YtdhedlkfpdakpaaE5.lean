import Derived.Test.YtdhedlkfpdakpaaE4
/-! Events: their bytes. -/
set_option linter.unusedVariables false
set_option linter.unusedSimpArgs false
set_option maxHeartbeats 4000000
set_option maxRecDepth 100000
namespace Go.Proofs.Ytdhedlkfpdakpaa.T
open Go Go.Ab
/-- A new slice of bytes. -/
def Fr8 (H H' : AH) (v : AV) (bs : List Int) : Prop := B8 H' v bs ∧ Chg [] H H' ∧ ∀ i ∈ blk v, H.length ≤ i
theorem New8.fr {H H' : AH} {v : AV} {bs : List Int} (h : New8 H H' v bs) : Fr8 H H' v bs := ⟨h.1.sl, h.2.1, h.2.2⟩
theorem New8.bk {H0 H1 H : AH} {v : AV} {bs : List Int} (h : New8 H1 H v bs) (c : Chg [] H0 H1) : New8 H0 H v bs := ⟨h.1, c.tr h.2.1, fun i hi => Nat.le_trans c.1 (h.2.2 i hi)⟩
theorem New8.nil (H : AH) : New8 H H (.slice none 0 (some 0) 0) [] := ⟨.nil _ _, .refl, by simp⟩
section
variable {k : Nat} {H : AH}
theorem SL.clip {v : AV} {cs : List AV} (h : SL H 1 v cs) {n : Nat} (hn : n = cs.length) : ∃ v', aslice H 1 v none (some (.int .i64 n)) (some (.int .i64 n)) = some v' ∧ SL H 1 v' cs ∧ ∀ i ∈ blk v', i ∈ blk v := by
  cases h with
  | nil c s =>
    simp at hn
    subst hn
    exact ⟨.slice none 0 (some 0) 1, by simp [aslice, abound], .nil _ _, by simp⟩
  | at_ b o m c l cs hz h1 h2 h3 h4 =>
    have hm : n = m := by rw [hn, ← h3]; simp; omega
    subst hm
    have a1 : abound n (.int .i64 (n : Int)) = some n := abound_of rfl (Nat.le_refl _)
    refine ⟨.slice (some (b, o)) n (some n) 1, ?_, .at_ b o n _ l cs hz h1 h2 h3 (fun k hk => by cases hk; exact Nat.le_refl _), by simp⟩
    cases c with
    | none => simp [aslice, a1]
    | some c =>
      have a2 : abound c (.int .i64 (n : Int)) = some n := abound_of rfl (h4 c rfl)
      simp [aslice, a1, a2]
theorem clip_ok {v : AV} {bs : List Int} (h : B8 H v bs) : Hx (callA ap (k + 1) (.func 24 [] []) [v] 0 H) fun r => r.2 = H ∧ B8 H r.1 bs ∧ ∀ i ∈ blk r.1, i ∈ blk v := by
  rw [hx_go fn24 rfl, b24]
  obtain ⟨v', e, h1, h2⟩ := SL.clip (n := bs.length) h (by simp)
  obtain ⟨a, c, s, rfl⟩ := h.len8
  simp [f24, b24, e]
  exact ⟨h1, h2⟩
theorem put_ok {e : E8} : Hx (callA ap (k + 60) (.func 10 [] []) [.agg e.cs] 0 H) fun r => ∃ x, r.1 = .tuple [x, .int .i64 (if rt e then 0 else 1)] ∧ Fr8 H r.2 x (if rt e then putE e else []) := by
  rw [hx_go fn10 rfl, b10]
  simp [f10, b10, E8.cs]
  obtain ⟨G, eG⟩ : ∃ G, G = H ++ [.cells e.cs .rw] := ⟨_, rfl⟩
  have cG : Chg [] H G := by rw [eG]; exact .app _ _
  have r0 : G[H.length]? = some (.cells e.cs .rw) := by rw [eG]; simp
  simp only [E8.cs] at eG
  rw [← eG]
  refine Hx.mapp (right_ok (e := e)) ?_
  rintro ⟨r, H1⟩ ⟨er, c1⟩
  simp only at er c1
  subst er
  cases hr : rt e with
  | false =>
    simp
    exact ⟨.nil _ _, cG.tr c1, by simp⟩
  | true =>
    have hk := rt_kind hr
    have w8 : IntKind.u8.wrap e.k = e.k := by rw [wrap_u8]; omega
    obtain ⟨ls, hls⟩ : ∃ ls, ls = fld e.k := ⟨_, rfl⟩
    have hB := fld_byt e.k
    have hll := fld_len e.k
    have hi64 := rt_i64 hr
    have hnums : eNums e = ls.map (gt e) := by rw [hls]; rfl
    have hf : ∀ k H, callA ap (k + 1) (.func 14 [] []) [.int .i64 e.k] 0 H = some (.str (strN ls), H) := fun k H => by rw [hls]; exact fields_ok
    rw [← hls] at hB hll hi64
    have hu := strN_u8s hB
    have q1 := rowOf_rw (c1.get r0 (by simp))
    have q1a : ∀ X, rowOf (H1 ++ X) H.length = some e.cs := fun X => rowOf_rw ((c1.tr (.app _ _)).get r0 (by simp))
    simp only [E8.cs] at q1 q1a
    simp [q1, q1a, w8, hf, hu, strN_size]
    obtain ⟨G2, eG2⟩ : ∃ G2, G2 = H1 ++ [.cells [.int .u8 e.k] .rw, .cells (u8s ls) .rw] := ⟨_, rfl⟩
    have c2 : Chg [] H1 G2 := by rw [eG2]; exact .app _ _
    have r1 : G2[H1.length]? = some (.cells [.int .u8 e.k] .rw) := by rw [eG2]; simp
    have r2 : G2[H1.length + 1]? = some (.cells (u8s ls) .rw) := by rw [eG2]; simp
    rw [← eG2]
    have c02 : Chg [] H G2 := (cG.tr c1).tr c2
    have n0 : New8 H G2 (.slice (some (H1.length, 0)) 1 (some 1) 1) [e.k] := ⟨.row _ 1 _ [.int .u8 e.k] _ Nat.one_pos r1 (by simp) (by simp [u8s]) (by simp), c02, by have := (cG.tr c1).1; simp; omega⟩
    refine hx_up (fun i s => ∃ H' x, s = ⟨sp 31 [(1, .ptr (some (H.length, 0))), (4, x), (17, .slice (some (H1.length + 1, 0)) ls.length none 1), (18, .int .i64 ls.length), (19, .int .i64 i)], H', []⟩ ∧ New8 H H' x (e.k :: encs ((eNums e).take i)) ∧ Chg [] G2 H') ls.length ?_ ?_ (by omega)
      ⟨G2, .slice (some (H1.length, 0)) 1 (some 1) 1, by simp [maskS], by simpa [encs] using n0, .refl⟩
    · rintro i _ hi ⟨H2, x, rfl, nx, c3⟩
      have hi' : (i : Int) < (ls.length : Int) := by omega
      have q2 := rowOf_rw (c3.get r2 (by simp))
      obtain ⟨R, hR, gl⟩ := u8s_row hi
      rw [← hR] at q2
      have w : IntKind.i64.wrap ((i : Int) + 1) = (i : Int) + 1 := wrap_i64 (by omega) (by omega)
      have q0 := ((c1.tr c2).tr c3).get r0 (by simp)
      have q0' := rowOf_rw q0
      simp only [E8.cs] at q0'
      have hin : i < (eNums e).length := by rw [hnums]; simpa using hi
      have htk := encs_take hin
      have hgd : (eNums e).getD i 0 = gt e (ls.getD i 0) := by
        rw [hnums, List.getD_eq_getElem?_getD, List.getElem?_map, List.getElem?_eq_getElem hi, List.getD_eq_getElem?_getD, List.getElem?_eq_getElem hi]
        rfl
      have hI := hi64 (ls.getD i 0) (by rw [List.getD_eq_getElem?_getD, List.getElem?_eq_getElem hi]; exact List.getElem_mem hi)
      rw [hgd] at htk
      have hlen := encs_len ((eNums e).take i)
      rw [List.length_take] at hlen
      generalize ls.getD i 0 = l at *
      simp [hi, hi', q2, gl, q0']
      refine Hx.mapp (get_ok (e := e) (l := l)) ?_
      rintro ⟨r, H3⟩ ⟨er, c4⟩
      simp only at er c4
      subst er
      simp
      refine Hx.mapp (number_ok (nx.keep c4).1.sl (by simp; omega) hI) ?_
      rintro ⟨y, H4⟩ ny
      simp only at ny
      simp [w]
      refine ⟨H4, y, by simp [maskS], ?_, (c3.tr c4).tr ny.2.1⟩
      rw [htk]
      exact ny.bk (nx.keep c4).2.1
    · rintro _ ⟨H2, x, rfl, nx, c3⟩
      rw [List.take_of_length_le (by rw [hnums]; simp)] at nx
      simp
      refine Hx.mapp (clip_ok nx.1.sl) ?_
      rintro ⟨y, H3⟩ ⟨e3, h1, h2⟩
      simp only at e3 h1 h2
      replace e3 := e3.symm
      subst e3
      simp
      exact ⟨h1, nx.2.1, fun i hi => nx.2.2 i (h2 i hi)⟩
theorem rput_ok {e : E8} : Hx (callA ap (k + 60) (.func 11 [] []) [.agg e.cs] 0 H) fun r => ∃ x, r.1 = .tuple [x, .int .i64 (if rt e then 0 else 1)] ∧ Fr8 H r.2 x (if rt e then putE e else []) := by
  rw [hx_go fn11 rfl, b11]
  simp [f11, b11, E8.cs]
  obtain ⟨G, eG⟩ : ∃ G, G = H ++ [.cells e.cs .rw] := ⟨_, rfl⟩
  have cG : Chg [] H G := by rw [eG]; exact .app _ _
  have r0 : G[H.length]? = some (.cells e.cs .rw) := by rw [eG]; simp
  simp only [E8.cs] at eG
  rw [← eG]
  refine Hx.mapp (rright_ok (e := e)) ?_
  rintro ⟨r, H1⟩ ⟨er, c1⟩
  simp only at er c1
  subst er
  cases hr : rt e with
  | false =>
    simp
    exact ⟨.nil _ _, cG.tr c1, by simp⟩
  | true =>
    have hk := rt_kind hr
    have w8 : IntKind.u8.wrap e.k = e.k := by rw [wrap_u8]; omega
    obtain ⟨ls, hls⟩ : ∃ ls, ls = fld e.k := ⟨_, rfl⟩
    have hB := fld_byt e.k
    have hll := fld_len e.k
    have hi64 := rt_i64 hr
    have hnums : eNums e = ls.map (gt e) := by rw [hls]; rfl
    have hf : ∀ k H, callA ap (k + 1) (.func 15 [] []) [.int .i64 e.k] 0 H = some (.str (strN ls), H) := fun k H => by rw [hls]; exact rfields_ok
    rw [← hls] at hB hll hi64
    have q1 := rowOf_rw (c1.get r0 (by simp))
    have q1a : ∀ X, rowOf (H1 ++ X) H.length = some e.cs := fun X => rowOf_rw ((c1.tr (.app _ _)).get r0 (by simp))
    simp only [E8.cs] at q1 q1a
    simp [q1, q1a, w8, hf]
    obtain ⟨G2, eG2⟩ : ∃ G2, G2 = H1 ++ [.cells [.int .u8 e.k] .rw] := ⟨_, rfl⟩
    have c2 : Chg [] H1 G2 := by rw [eG2]; exact .app _ _
    have r1 : G2[H1.length]? = some (.cells [.int .u8 e.k] .rw) := by rw [eG2]; simp
    rw [← eG2]
    have c02 : Chg [] H G2 := (cG.tr c1).tr c2
    have n0 : New8 H G2 (.slice (some (H1.length, 0)) 1 (some 1) 1) [e.k] := ⟨.row _ 1 _ [.int .u8 e.k] _ Nat.one_pos r1 (by simp) (by simp [u8s]) (by simp), c02, by have := (cG.tr c1).1; simp; omega⟩
    refine hx_up (fun i s => ∃ H' x, s = ⟨sp 31 [(1, .ptr (some (H.length, 0))), (4, x), (5, .str (strN ls)), (6, .int .i64 i)], H', []⟩ ∧ New8 H H' x (e.k :: encs ((eNums e).take i)) ∧ Chg [] G2 H') ls.length ?_ ?_ (by omega)
      ⟨G2, .slice (some (H1.length, 0)) 1 (some 1) 1, by simp [maskS], by simpa [encs] using n0, .refl⟩
    · rintro i _ hi ⟨H2, x, rfl, nx, c3⟩
      have hi' : (i : Int) < (ls.length : Int) := by omega
      obtain ⟨c, hc, hcl⟩ := str_idx hB hi
      have hsz := strN_size ls
      have w : IntKind.i64.wrap ((i : Int) + 1) = (i : Int) + 1 := wrap_i64 (by omega) (by omega)
      have hin : i < (eNums e).length := by rw [hnums]; simpa using hi
      have htk := encs_take hin
      have hgd : (eNums e).getD i 0 = gt e (ls.getD i 0) := by
        rw [hnums, List.getD_eq_getElem?_getD, List.getElem?_map, List.getElem?_eq_getElem hi, List.getD_eq_getElem?_getD, List.getElem?_eq_getElem hi]
        rfl
      have hI := hi64 (ls.getD i 0) (by rw [List.getD_eq_getElem?_getD, List.getElem?_eq_getElem hi]; exact List.getElem_mem hi)
      rw [hgd] at htk
      have hlen := encs_len ((eNums e).take i)
      rw [List.length_take] at hlen
      obtain ⟨Z, hZ⟩ : ∃ Z, Z = strN ls := ⟨_, rfl⟩
      rw [← hZ] at hc hsz ⊢
      generalize ls.getD i 0 = l at *
      simp [hi, hi', hsz]
      refine hx_drawn dc11_8 fun H3 d3 hl3 hd3 => ?_
      have q0 := (((c1.tr c2).tr c3).tr d3).get r0 (by simp)
      have q0' := rowOf_rw q0
      simp only [E8.cs] at q0'
      simp [d11_8, hc, hcl, q0']
      refine Hx.mapp (value_ok (e := e) (l := l)) ?_
      rintro ⟨r, H4⟩ ⟨er, c4⟩
      simp only at er c4
      subst er
      simp
      have nk := (nx.keep d3).keep c4
      refine Hx.mapp (rnumber_ok nk.1.sl (by simp; omega) hI) ?_
      rintro ⟨y, H5⟩ ny
      simp only at ny
      simp [w]
      refine ⟨H5, y, by simp [maskS], ?_, ((c3.tr d3).tr c4).tr ny.2.1⟩
      rw [htk]
      exact ny.bk nk.2.1
    · rintro _ ⟨H2, x, rfl, nx, c3⟩
      rw [List.take_of_length_le (by rw [hnums]; simp)] at nx
      have hsz := strN_size ls
      simp [hsz]
      exact nx.fr
end
end Go.Proofs.Ytdhedlkfpdakpaa.T
