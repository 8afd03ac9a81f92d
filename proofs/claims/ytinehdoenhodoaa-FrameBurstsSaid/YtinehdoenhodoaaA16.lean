import Derived.Test.YtinehdoenhodoaaA15
/-! FramePuts. -/
set_option linter.unusedVariables false
set_option linter.unusedSimpArgs false
set_option maxHeartbeats 4000000
set_option maxRecDepth 100000
namespace Go.Proofs.Ytinehdoenhodoaa.T.Fm
open Go Go.Ab
theorem toStr_bs {H : AH} {v : AV} {bs : List Int} (h : BS H v bs) : toStr H v = some (.str (strN bs)) := by
  cases h with
  | nil c s => rfl
  | at_ b o n c l bs h1 h2 h3 h4 => simp [toStr, firstC, h1, h2, h3, numsAV_u8s]
/-- What both make of bytes: a record, or none; told once. -/
theorem both_ok {H : AH} {v : AV} {bs : List Int} (h : B8 H v bs) (hl : bs.length ≤ 1000) {k : Nat} :
    ∃ rb : List Int, ∃ code : Int, (Byt bs → Byt rb) ∧ (∀ H', Chg [] H H' → Hx (callA ap (k + 500) (.func 9 [] []) [v] 0 H') fun r => Chg [] H' r.2 ∧ ∃ x, r.1 = .tuple [x, .int .i64 code] ∧ BS r.2 x rb) ∧
      (∀ H', Chg [] H H' → Hx (callA ap (k + 500) (.func 10 [] []) [v] 0 H') fun r => Chg [] H' r.2 ∧ ∃ x, r.1 = .tuple [x, .int .i64 code] ∧ BS r.2 x rb) := by
  by_cases h4 : bs.length ≤ 400
  · refine ⟨recB bs, 0, recB_byt, fun H' c => ?_, fun H' c => ?_⟩
    · have := put_ok (k := k + 500) (lo := 0) (h.keep c).bs h4 rfl (Nat.zero_le _) (by omega)
      refine Hx.of this ⟨.app _ _, _, rfl, ?_⟩
      exact BS.new (.inl rfl) (i := 0) rfl (by rw [recB_len]) rfl
    · obtain ⟨X, s, e, hs⟩ := frame_ok (k := k + 500) (lo := 0) (h.keep c).bs h4 (Nat.zero_le _) (by omega)
      exact Hx.of e ⟨.app _ _, _, rfl, hs⟩
  · refine ⟨[], 1, fun _ => byt_nil, fun H' c => ?_, fun H' c => ?_⟩
    · have := put_long (k := k + 499) (lo := 0) (h.keep c).bs (by omega)
      exact Hx.of this ⟨.refl, _, rfl, .nil _ _⟩
    · have := frame_long (k := k + 499) (lo := 0) (h.keep c).bs (by omega)
      exact Hx.of this ⟨.refl, _, rfl, .nil _ _⟩
section
variable {k : Nat} {H : AH}
theorem bs_keep {H H' : AH} {v : AV} {bs : List Int} (h : BS H v bs) (c : Chg [] H H') : BS H' v bs := by
  cases h with
  | nil c s => exact .nil _ _
  | at_ b o n cp l bs h1 h2 h3 h4 => exact .at_ b o n cp l bs (c.row h1 (by simp)) h2 h3 h4
theorem framePuts_ok {v : AV} {bs : List Int} {more : Int} (hb : B8 H v bs) (hB : Byt bs) (hm : 0 ≤ more ∧ more < 256) :
    Hx (callA ap (k + 501) (.func 3 [] []) [v, .int .u8 more] 0 H) fun r => r.1 = .bool true := by
  rw [hx_go fn3 rfl, b3]
  obtain ⟨a, c, s, rfl⟩ := hb.len8
  by_cases h3 : 300 < bs.length
  · have h3' : (300 : Int) < (bs.length : Int) := by omega
    simp [known_ok, h3']
  have h3' : ¬ (300 : Int) < (bs.length : Int) := by omega
  have ow : Mine (H ++ [.cells [] .rw]) 1 (.slice (some (H.length, 0)) 0 (some 0) 1) [] := .row _ 0 _ [] _ Nat.one_pos (by simp) (by simp) (by simp) (by simp)
  simp [known_ok, h3']
  refine Hx.mapp (ow.append (hb.keep (.app _ _)) Nat.one_pos Nat.one_pos u8s_one (by simp; unfold room; omega)) ?_
  rintro ⟨w, H2⟩ ⟨m2, c2, k2⟩
  simp only [List.nil_append] at m2 c2 k2
  have c02 : Chg [] H H2 := (Chg.app _ _).trans c2 (by simp)
  have ht : more.tmod 5 = more % 5 := Int.tmod_eq_emod_of_nonneg hm.1
  obtain ⟨M, hM⟩ : ∃ M : Nat, (M : Int) = 398 - (bs.length : Int) + more % 5 := ⟨(398 - (bs.length : Int) + more % 5).toNat, by omega⟩
  have w1 : IntKind.i64.wrap (398 - (bs.length : Int)) = 398 - (bs.length : Int) := wrap_i64 (by omega) (by omega)
  have w2 : IntKind.i64.wrap (more % 5) = more % 5 := wrap_i64 (by omega) (by omega)
  have w3 : IntKind.i64.wrap (398 - (bs.length : Int) + more % 5) = (M : Int) := by rw [hM]; exact wrap_i64 (by omega) (by omega)
  simp [apI, ht, w1, w2, w3]
  refine Hx.mapp (Mine.appendZ (te := ⟨1, 1, [.int .u8 0], .int .u8⟩) (m := M) m2 (by decide) (by decide) rfl rfl (by unfold room; simp; omega) (by simp; unfold room; omega)) ?_
  rintro ⟨y, H3⟩ ⟨m3, c3, k3⟩
  simp only at m3 c3 k3
  have hz : u8s bs ++ (List.replicate M [AV.int .u8 0]).flatten = u8s (bs ++ List.replicate M 0) := by
    rw [u8s_app]
    congr 1
    unfold u8s
    clear hM w3 m3
    induction M with
    | zero => rfl
    | succ n ih => simp only [List.replicate_succ, List.flatten_cons, List.map_cons, List.singleton_append, ih]
  rw [hz] at m3
  obtain ⟨cs, hcs⟩ : ∃ cs, cs = bs ++ List.replicate M 0 := ⟨_, rfl⟩
  rw [← hcs] at m3
  have hBc : Byt cs := by
    rw [hcs]
    refine hB.app fun x hx => ?_
    have := List.eq_of_mem_replicate hx
    omega
  have hcl : cs.length ≤ 1000 := by rw [hcs]; simp; omega
  have c03 : Chg [] H H3 := c02.trans c3 (fun i hi => by rcases k2 i hi with h | h <;> simp at h <;> exact .inr (by omega))
  have hb3 := hb.keep c03
  have hc3 := m3.sl
  obtain ⟨rb, code, hBr, p1, p2⟩ := both_ok (k := k) hb3 (by omega)
  obtain ⟨rc, code2, hBrc, p3, p4⟩ := both_ok (k := k) hc3 hcl
  obtain ⟨ya, yc, ys, rfl⟩ := hc3.len8
  simp
  refine Hx.mapp (p1 H3 .refl) ?_
  rintro ⟨r, H4⟩ ⟨c4, x1, e, s1⟩
  simp only at e c4
  subst e
  simp
  refine Hx.mapp (p2 H4 c4) ?_
  rintro ⟨r, H5⟩ ⟨c5, x2, e, s2⟩
  simp only at e c5
  subst e
  simp
  refine Hx.mapp (p3 H5 (c4.tr c5)) ?_
  rintro ⟨r, H6⟩ ⟨c6, x3, e, s3⟩
  simp only at e c6
  subst e
  simp
  refine Hx.mapp (p4 H6 ((c4.tr c5).tr c6)) ?_
  rintro ⟨r, H7⟩ ⟨c7, x4, e, s4⟩
  simp only at e c7
  subst e
  have t1 := toStr_bs (bs_keep (bs_keep (bs_keep s1 c5) c6) c7)
  have t2 := toStr_bs (bs_keep (bs_keep s2 c6) c7)
  have t3 := toStr_bs (bs_keep s3 c7)
  have t4 := toStr_bs s4
  have q1 := strN_beq (hBr hB) (hBr hB)
  have q2 := strN_beq (hBrc hBc) (hBrc hBc)
  have hb7 := hb3.keep (((c4.tr c5).tr c6).tr c7)
  have e1 := sum_ok hb7.bs (by omega) (k := k + 500) (lo := 0) (by omega)
  have e2 := crc_ok hb7.bs (by omega) (k := k + 500) (lo := 0) (by omega)
  simp [t1, t2, t3, t4, q1, q2, e1, e2]
end
theorem wf_u8 {z : Int} (h : (Lit.int .u8 z).wf = true) : 0 ≤ z ∧ z < 256 := by
  simp [Lit.wf, IntKind.has, IntKind.min, IntKind.max, IntKind.bits, IntKind.signed] at h
  omega
theorem wf_u16 {z : Int} (h : (Lit.int .u16 z).wf = true) : 0 ≤ z ∧ z < 65536 := by
  simp [Lit.wf, IntKind.has, IntKind.min, IntKind.max, IntKind.bits, IntKind.signed] at h
  omega
theorem wf_u32 {z : Int} (h : (Lit.int .u32 z).wf = true) : 0 ≤ z ∧ z < 4294967296 := by
  simp [Lit.wf, IntKind.has, IntKind.min, IntKind.max, IntKind.bits, IntKind.signed] at h
  omega
theorem framePuts_main (H : AH) (ass : List (List AV)) (hl : ass.length = [22, 5].length) (ha : ∀ (i : Nat) t al, [22, 5][i]? = some t → ass[i]? = some al → AR ap 6 H t al) :
    Hx (callA ap 2000 (.func 3 [] []) (List.zipWith (argA ap) [22, 5] ass) 0 H) fun r => r.1 = .bool true := by
  match ass, hl with
  | [a0, a1], _ =>
    obtain ⟨v, bs, rfl, h0, hB⟩ := ar_bytes (ha 0 22 a0 rfl rfl) ty22 rfl ty5 rfl rfl
    obtain ⟨n, rfl, w⟩ := ar_int (ha 1 5 a1 rfl rfl) ty5 rfl
    simp only [List.zipWith_cons_cons, List.zipWith_nil_right, argA_one ty22 rfl, argA_one ty5 rfl, tag_eq]
    exact framePuts_ok (k := 1499) h0 hB (wf_u8 w)
theorem frameBursts_main (H : AH) (ass : List (List AV)) (hl : ass.length = [22, 41, 27].length) (ha : ∀ (i : Nat) t al, [22, 41, 27][i]? = some t → ass[i]? = some al → AR ap 6 H t al) :
    Hx (callA ap 2000 (.func 7 [] []) (List.zipWith (argA ap) [22, 41, 27] ass) 0 H) fun r => r.1 = .bool true := by
  match ass, hl with
  | [a0, a1, a2], _ =>
    obtain ⟨v, bs, rfl, h0, hB⟩ := ar_bytes (ha 0 22 a0 rfl rfl) ty22 rfl ty5 rfl rfl
    obtain ⟨n, rfl, w⟩ := ar_int (ha 1 41 a1 rfl rfl) ty41 rfl
    obtain ⟨m, rfl, w2⟩ := ar_int (ha 2 27 a2 rfl rfl) ty27 rfl
    simp only [List.zipWith_cons_cons, List.zipWith_nil_right, argA_one ty22 rfl, argA_one ty41 rfl, argA_one ty27 rfl, tag_eq]
    exact frameBursts_ok h0 hB (wf_u16 w) (wf_u32 w2) (by omega)
end Go.Proofs.Ytinehdoenhodoaa.T.Fm
