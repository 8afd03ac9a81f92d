import Derived.Test.YtpohdapcbcjidaaB3
/-! do, light; TapePlays. -/
set_option linter.unusedVariables false
set_option linter.unusedSimpArgs false
set_option maxHeartbeats 4000000
set_option maxRecDepth 100000
namespace Go.Proofs.Ytpohdapcbcjidaa.T
open Go Go.Ab
/-- An act's cells. -/
def ActC (H : AH) (cs : List AV) (a : Act) : Prop := ∃ x, cs = [.int .u8 a.kd, x, .int .i64 a.n, .int .i64 a.kp] ∧ B8 H x a.xs ∧ Byt a.xs ∧ (0 ≤ a.kd ∧ a.kd < 256) ∧ a.n ≤ 9223372036854775807
section
variable {H0 H H' : AH} {p q : Nat} {v u : AV} {t t' r r' : TS} {k : Nat}
theorem do_ok (P : Pair H0 H p v t q u r) (e : eqT t r) (hb : byT t) {cs : List AV} {a : Act} (ha : ActC H0 cs a) (hl : a.xs.length ≤ 200) :
    Hx (callA ap (k + 4) (.func 20 [] []) [.ptr (some (p, 0)), .ptr (some (q, 0)), .agg cs] 0 H) fun x => x.1 = .bool true ∧ ∃ v' u', Pair H0 x.2 p v' (doT t a) q u' (doR r a) := by
  obtain ⟨x, rfl, hx, hxb, hkd, hn⟩ := ha
  obtain ⟨ax, cx, sx, rfl⟩ := hx.len8
  have hm0 := Int.tmod_nonneg 5 hkd.1
  have hm5 := Int.tmod_lt_of_pos a.kd (show (0 : Int) < 5 by omega)
  have hm1 : IntKind.u8.wrap (a.kd.tmod 5) = a.kd.tmod 5 := by rw [wrap_u8]; omega
  rw [hx_call fn20 rfl]
  have c1 : Chg [] H (H ++ [.cells [.int .u8 a.kd, .slice ax a.xs.length cx sx, .int .i64 a.n, .int .i64 a.kp] .rw]) := .app _ _
  have g1 : (H ++ [.cells [.int .u8 a.kd, .slice ax a.xs.length cx sx, .int .i64 a.n, .int .i64 a.kp] .rw])[H.length]? = some (.cells [.int .u8 a.kd, .slice ax a.xs.length cx sx, .int .i64 a.n, .int .i64 a.kp] .rw) := by simp
  have P1 := P.keep c1
  have lp := P.left.lt
  have lq := P.right.lt
  have lv := P.left.mine.lt
  have lu := P.right.mine.lt
  unfold doT doR
  generalize hm : a.kd.tmod 5 = m at *
  have xp : ∀ i ∈ blk (.slice ax a.xs.length cx sx), i < H0.length := hx.lt
  simp [f20, b20, hm]
  generalize (H ++ [AB.cells [.int .u8 a.kd, .slice ax a.xs.length cx sx, .int .i64 a.n, .int .i64 a.kp] .rw]) = H1 at *
  by_cases h0 : m = 0
  · simp [h0, rowOf_rw g1]
    refine hx_drawn dc20_5 fun H2 c2 _ _ => ?_
    have P2 := P1.keep c2
    have g2 := c2.get g1 (by simp)
    simp [d20_5, rowOf_rw g2]
    refine Hx.mapp (append_ok P2.left (hx.keep P2.chg) (fun h => by have := xp _ h; have := P.hp; omega) (by omega)) ?_
    rintro ⟨_, H3⟩ ⟨rfl, s3⟩
    simp only at s3
    have g3 : H3[H.length]? = some (.cells [.int .u8 a.kd, .slice ax a.xs.length cx sx, .int .i64 a.n, .int .i64 a.kp] .rw) := by
      obtain ⟨_, _, c, _⟩ := s3
      refine c.get g2 (fun h => ?_)
      rcases List.mem_cons.1 h with h | h
      · omega
      · have := lv _ h; omega
    obtain ⟨v', P3⟩ := P2.stepL s3
    simp
    refine Hx.mapp (rappend_ok P3.right (hx.keep P3.chg) (fun h => by have := xp _ h; have := P.hq; omega) (by omega)) ?_
    rintro ⟨_, H4⟩ ⟨rfl, s4⟩
    simp only at s4
    obtain ⟨u', P4⟩ := P3.stepR s4
    simp [rowOf_rw g3, (appT_eq e a.xs).1]
    exact ⟨_, _, P4⟩
  by_cases h1 : m = 1
  · simp [h1, rowOf_rw g1]
    refine hx_drawn dc20_7 fun H2 c2 _ _ => ?_
    have P2 := P1.keep c2
    have g2 := c2.get g1 (by simp)
    simp [d20_7, rowOf_rw g2]
    refine Hx.mapp (cut_ok P2.left) ?_
    rintro ⟨_, H3⟩ ⟨rfl, s3⟩
    simp only at s3
    have g3 : H3[H.length]? = some (.cells [.int .u8 a.kd, .slice ax a.xs.length cx sx, .int .i64 a.n, .int .i64 a.kp] .rw) := by
      obtain ⟨_, _, c, _⟩ := s3
      refine c.get g2 (fun h => ?_)
      rcases List.mem_cons.1 h with h | h
      · omega
      · have := lv _ h; omega
    obtain ⟨v', P3⟩ := P2.stepL s3
    simp
    refine Hx.mapp (rcut_ok P3.right) ?_
    rintro ⟨_, H4⟩ ⟨rfl, s4⟩
    simp only at s4
    obtain ⟨u', P4⟩ := P3.stepR s4
    simp [rowOf_rw g3, (cutT_eq e a.n).1]
    exact ⟨_, _, P4⟩
  by_cases h2 : m = 2
  · obtain ⟨eb, er, ed⟩ := e.obs
    simp [h2, rowOf_rw g1]
    refine Hx.mapp (read_ok P1.left) ?_
    rintro ⟨_, H2⟩ ⟨c2, x2, rfl, m2, f2⟩
    simp only at c2 m2 f2
    have P2 := P1.keep c2
    simp
    refine Hx.mapp (rread_ok P2.right) ?_
    rintro ⟨_, H3⟩ ⟨c3, x3, rfl, m3, f3⟩
    simp only at c3 m3 f3
    have P3 := P2.keep c3
    rw [ed, eb] at m3
    have t2 := toStr_b8 (m2.sl.keep c3)
    have t3 := toStr_b8 m3.sl
    have hbb : Byt (if t.down then [] else t.bs) := by split; exact byt_nil; exact hb
    have qq := strN_beq hbb hbb
    generalize (if t.down = true then [] else t.bs) = bb at *
    simp [t2, t3, qq, ed]
    exact ⟨_, _, P3⟩
  by_cases h3 : m = 3
  · simp [h3, rowOf_rw g1]
    refine Hx.mapp (arm_ok P1.left hn) ?_
    rintro ⟨_, H2⟩ ⟨rfl, s2⟩
    simp only at s2
    have g2 : H2[H.length]? = some (.cells [.int .u8 a.kd, .slice ax a.xs.length cx sx, .int .i64 a.n, .int .i64 a.kp] .rw) := by
      obtain ⟨_, _, c, _⟩ := s2
      refine c.get g1 (fun h => ?_)
      rcases List.mem_cons.1 h with h | h
      · omega
      · have := lv _ h; omega
    obtain ⟨v', P2⟩ := P1.stepL s2
    simp [rowOf_rw g2]
    refine Hx.mapp (rarm_ok P2.right hn) ?_
    rintro ⟨_, H3⟩ ⟨rfl, s3⟩
    simp only at s3
    obtain ⟨u', P3⟩ := P2.stepR s3
    simp
    exact ⟨_, _, P3⟩
  · simp [h0, h1, h2, h3, rowOf_rw g1]
    refine Hx.mapp (wake_ok P1.left) ?_
    rintro ⟨_, H2⟩ ⟨rfl, s2⟩
    simp only at s2
    obtain ⟨v', P2⟩ := P1.stepL s2
    simp
    refine Hx.mapp (rwake_ok P2.right) ?_
    rintro ⟨_, H3⟩ ⟨rfl, s3⟩
    simp only at s3
    obtain ⟨u', P3⟩ := P2.stepR s3
    simp
    exact ⟨_, _, P3⟩
/-- A row of acts. -/
def Acts (H : AH) (v : AV) (l : List Act) : Prop := ∃ es : List (List AV), es.length = l.length ∧ SL H 4 v es.flatten ∧ (∀ x ∈ es, x.length = 4) ∧ ∀ (i : Nat) x a, es[i]? = some x → l[i]? = some a → ActC H x a
theorem ActC.keep {cs : List AV} {a : Act} (h : ActC H cs a) (c : Chg [] H H') : ActC H' cs a := by
  obtain ⟨x, h1, h2, h3⟩ := h
  exact ⟨x, h1, h2.keep c, h3⟩
theorem Acts.keep {l : List Act} (h : Acts H v l) (c : Chg [] H H') : Acts H' v l := by
  obtain ⟨es, h1, h2, h3, h4⟩ := h
  exact ⟨es, h1, h2.keep c, h3, fun i x a g1 g2 => (h4 i x a g1 g2).keep c⟩
theorem Acts.form {l : List Act} (h : Acts H v l) : ∃ a c s, v = .slice a l.length c s := by
  obtain ⟨es, h1, h2, h3, h4⟩ := h
  obtain ⟨a, c, s, rfl⟩ := sle_form h2 h3 (by omega)
  exact ⟨a, c, s, by rw [h1]⟩
theorem Acts.get {l : List Act} (h : Acts H v l) {i : Nat} (hi : i < l.length) : ∃ b o c r x, v = .slice (some (b, o)) l.length c 4 ∧ rowOf H b = some r ∧ o + i * 4 + 4 ≤ r.length ∧ (r.drop (o + i * 4)).take 4 = x ∧ (∀ j, j < 4 → r[o + i * 4 + j]? = x[j]?) ∧ ActC H x l[i] := by
  obtain ⟨es, h1, h2, h3, h4⟩ := h
  obtain ⟨b, o, c, r, rfl, g1, g2, g3, g4⟩ := sle_get h2 h3 (by omega) (i := i) (x := es[i]) (List.getElem?_eq_getElem (by omega))
  exact ⟨b, o, c, r, _, by rw [h1], g1, g2, g3, g4, h4 i _ _ (List.getElem?_eq_getElem (by omega)) (List.getElem?_eq_getElem hi)⟩
theorem ar_acts {m : Nat} {al : List AV} (h : AR ap m H 36 al) : ∃ v l, al = [v] ∧ Acts H v l := by
  obtain ⟨v, es, m', rfl, h1, h2⟩ := ar_slice h ty36 rfl ty43
  obtain ⟨l, g1, g2⟩ := list_choose (R := ActC H) es fun x hx => by
    obtain ⟨parts, m2, rfl, k2, k3⟩ := ar_struct (h2 x hx).2 ty43 rfl
    match parts, k2 with
    | [p0, p1, p2, p3], _ =>
      obtain ⟨z0, rfl, w0⟩ := ar_int (k3 0 (0, 5) p0 rfl rfl) ty5 rfl
      obtain ⟨v1, bs, rfl, w1, w1'⟩ := ar_bytes (k3 1 (1, 24) p1 rfl rfl) ty24 rfl ty5 rfl rfl
      obtain ⟨z2, rfl, w2⟩ := ar_int (k3 2 (2, 3) p2 rfl rfl) ty3 rfl
      obtain ⟨z3, rfl, w3⟩ := ar_int (k3 3 (3, 3) p3 rfl rfl) ty3 rfl
      simp [Lit.wf, IntKind.has, IntKind.min, IntKind.max, IntKind.bits, IntKind.signed] at w0 w2
      exact ⟨⟨z0, bs, z2, z3⟩, v1, rfl, w1, w1', by simp only; omega, by simp only; omega⟩
  exact ⟨v, l, rfl, es, g1.symm, h1, fun x hx => (h2 x hx).1, g2⟩
def lightB (l : List Act) : Prop := l.length ≤ 60 ∧ ∀ i (h : i < l.length), l[i].xs.length ≤ 200
theorem light_ok {l : List Act} (h : Acts H v l) (hk : 100 < k) :
    Hx (callA ap k (.func 17 [] []) [v] 0 H) fun r => r.2 = H ∧ ((lightB l ∧ r.1 = .bool true) ∨ (¬ lightB l ∧ r.1 = .bool false)) := by
  obtain ⟨k, rfl⟩ : ∃ k', k = k' + 1 := ⟨k - 1, by omega⟩
  rw [hx_call fn17 rfl]
  obtain ⟨a, c, s, rfl⟩ := h.form
  by_cases h20 : 60 < l.length
  · have h20' : 60 < (l.length : Int) := by omega
    simp [f17, b17, h20']
    exact fun h => absurd h.1 (by omega)
  have h20' : ¬ 60 < (l.length : Int) := by omega
  simp [f17, b17, h20']
  refine hx_up (fun i st => st = ⟨sp 20 [(0, .slice a l.length c s), (3, .int .i64 i)], H, []⟩ ∧ ∀ j (h : j < l.length), j < i → l[j].xs.length ≤ 200) l.length ?_ ?_ (by omega) ⟨by simp [maskS], by simp⟩
  · rintro i st hi ⟨rfl, hin⟩
    obtain ⟨b, o, c', r, x, e, g1, g2, g3, g4, ha⟩ := h.get hi
    cases e
    obtain ⟨y, rfl, hy, _⟩ := ha
    obtain ⟨az, cz, sz, rfl⟩ := hy.len8
    have g41 := g4 1 (by omega)
    simp only [List.getElem?_cons_succ, List.getElem?_cons_zero] at g41
    have hi' : (i : Int) < l.length := by omega
    have w : IntKind.i64.wrap ((i : Int) + 1) = (i : Int) + 1 := wrap_i64 (by omega) (by omega)
    by_cases h4 : 200 < l[i].xs.length
    · have h4' : 200 < (l[i].xs.length : Int) := by omega
      generalize hm : l[i].xs.length = m at *
      simp [hi', hi, g1, g41, h4']
      intro hf
      have := hf.2 i hi
      omega
    · have h4' : ¬ 200 < (l[i].xs.length : Int) := by omega
      have h4'' : l[i].xs.length ≤ 200 := by omega
      generalize hm : l[i].xs.length = m at *
      simp [hi', hi, g1, g41, h4', w, maskS]
      intro j hj hj2
      by_cases hji : j = i
      · subst hji; rw [hm]; exact h4''
      · exact hin j hj (by omega)
  · rintro st ⟨rfl, hin⟩
    simp
    exact ⟨by omega, fun i hi => hin i hi hi⟩
theorem tapePlays_ok {room : Int} {l : List Act} (h : Acts H0 v l) : Hx (callA ap 2000 (.func 5 [] []) [.int .i64 room, v] 0 H0) fun r => r.1 = .bool true := by
  rw [hx_call fn5 rfl]
  obtain ⟨a, c, s, rfl⟩ := h.form
  simp [f5, b5, known_ok]
  refine Hx.mapp (light_ok h (by omega)) ?_
  rintro ⟨_, _⟩ ⟨e, ⟨hf, e2⟩ | ⟨hf, e2⟩⟩ <;> simp only at e e2 <;> replace e := e.symm <;> subst e <;> subst e2
  · have P := Pair.make (H0 := H0) room
    have n1 := fun lo H => @new_ok 1998 lo H room
    have n2 := fun lo H => @rnew_ok 1998 lo H room
    simp [n1, n2, eqV]
    generalize (H0 ++ [AB.cells (tcells (.slice none 0 (some 0) 0) ⟨[], min (max room 0) 1048576, false, false, 0, 0⟩) .rw, .cells (rcells (.slice none 0 (some 0) 0) ⟨[], min (max room 0) 1048576, false, false, 0, 0⟩) .rw]) = H1 at *
    refine Hx.mapp (alike_ok P (.inl rfl) (show byT _ from byt_nil)) ?_
    rintro ⟨_, H2⟩ ⟨rfl, c2⟩
    simp only at c2
    simp
    refine hx_up (fun i st => ∃ H' t r v' u', st = ⟨sp 45 [(1, .slice a l.length c s), (5, .ptr (some (H0.length, 0))), (6, .ptr (some (H0.length + 1, 0))), (7, .int .i64 i)], H', []⟩ ∧ Pair H0 H' H0.length v' t (H0.length + 1) u' r ∧ eqT t r ∧ byT t) l.length ?_ ?_ (by have := hf.1; omega) ⟨H2, _, _, _, _, by simp [maskS], P.keep c2, .inl rfl, byt_nil⟩
    · rintro i st hi ⟨H3, t, r, v', u', rfl, P3, e3, b3⟩
      obtain ⟨b, o, c', rr, x, e, g1, g2, g3, g4, ha⟩ := (h.keep P3.chg).get hi
      obtain ⟨b', o', c'', rr', x', e', g1', g2', g3', g4', ha'⟩ := h.get hi
      have hx : x = x' := by
        cases e; cases e'
        have := P3.chg.row g1' (by simp)
        rw [g1] at this
        cases this
        rw [← g3, ← g3']
      subst hx
      cases e
      have hi' : (i : Int) < l.length := by omega
      have w : IntKind.i64.wrap ((i : Int) + 1) = (i : Int) + 1 := wrap_i64 (by have := hf.1; omega) (by have := hf.1; omega)
      simp [hi', hi, g1, g2, g3]
      refine Hx.mapp (do_ok P3 e3 b3 ha' (hf.2 i hi)) ?_
      rintro ⟨_, H4⟩ ⟨rfl, v4, u4, P4⟩
      simp only at P4
      simp
      have hxb : Byt l[i].xs := by obtain ⟨_, _, _, hb, _⟩ := ha'; exact hb
      refine Hx.mapp (alike_ok P4 (do_eq e3 _) (byT_do b3 hxb)) ?_
      rintro ⟨_, H5⟩ ⟨rfl, c5⟩
      simp only at c5
      simp [w, maskS]
      exact ⟨_, _, ⟨_, _, P4.keep c5⟩, do_eq e3 _, byT_do b3 hxb⟩
    · rintro st ⟨H3, t, r, v', u', rfl, P3, e3, b3⟩
      simp
  · simp
theorem tapePlays_main (H : AH) (ass : List (List AV)) (hl : ass.length = [3, 36].length) (ha : ∀ (i : Nat) t al, [3, 36][i]? = some t → ass[i]? = some al → AR ap 6 H t al) :
    Hx (callA ap 2000 (.func 5 [] []) (List.zipWith (argA ap) [3, 36] ass) 0 H) fun r => r.1 = .bool true := by
  match ass, hl with
  | [a0, a1], _ =>
    obtain ⟨z, rfl, _⟩ := ar_int (ha 0 3 a0 rfl rfl) ty3 rfl
    obtain ⟨v, l, rfl, h1⟩ := ar_acts (ha 1 36 a1 rfl rfl)
    simp only [List.zipWith_cons_cons, List.zipWith_nil_right, argA_one ty3 rfl, argA_one ty36 rfl]
    exact tapePlays_ok h1
end
end Go.Proofs.Ytpohdapcbcjidaa.T
