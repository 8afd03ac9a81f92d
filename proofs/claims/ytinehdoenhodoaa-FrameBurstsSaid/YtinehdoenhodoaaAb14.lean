import Derived.Test.YtinehdoenhodoaaAb13
set_option linter.unusedVariables false
set_option linter.unusedSimpArgs false
namespace Go.Ab

mutual
theorem sameV_eq : ∀ {a b : AV}, sameV a b = true → a = b
  | .undef, b, h => by cases b <;> simp [sameV] at h; rfl
  | .bool x, b, h => by cases b <;> simp [sameV] at h; rw [h]
  | .int k n, b, h => by cases b <;> simp [sameV] at h; rw [h.1, h.2]
  | .str s, b, h => by
    cases b <;> simp [sameV] at h
    rename_i s'
    obtain ⟨⟨x⟩⟩ := s
    obtain ⟨⟨y⟩⟩ := s'
    simp at h
    rw [h]
  | .ptr a, b, h => by cases b <;> simp [sameV] at h; rw [h]
  | .slice a l c s, b, h => by cases b <;> simp [sameV] at h; obtain ⟨h1, h2, h3, h4⟩ := h; rw [h1, h2, h3, h4]
  | .func f x y, b, h => by cases b <;> simp [sameV] at h; rw [h.1, sameL_eq h.2.1, sameL_eq h.2.2]
  | .yield l, b, h => by cases b <;> simp [sameV] at h; rw [h]
  | .nilFunc, b, h => by cases b <;> simp [sameV] at h; rfl
  | .nilIface, b, h => by cases b <;> simp [sameV] at h; rfl
  | .iface t v, b, h => by cases b <;> simp [sameV] at h; rw [h.1, sameV_eq h.2]
  | .agg l, b, h => by cases b <;> simp [sameV] at h; rw [sameL_eq h]
  | .tuple l, b, h => by cases b <;> simp [sameV] at h; rw [sameL_eq h]
theorem sameL_eq : ∀ {l m : List AV}, sameL l m = true → l = m
  | [], m, h => by cases m <;> simp [sameL] at h; rfl
  | a :: l, m, h => by cases m <;> simp [sameL] at h; rw [sameV_eq h.1, sameL_eq h.2]
end

section
variable {P : Program} {ap : AP} {φ : Inj} {w : World}

/-- What does not read does the same everywhere. -/
theorem aop_free {lo : Nat} {m : List AV} {H : AH} {op : Op} {r : AV × AH} (hc : cls ap op = .q) (h : aop ap lo m H op = some r) : ∀ H2, aop ap lo m H2 op = some (r.1, H2) := by
  intro H2
  cases op <;> simp only [cls] at hc <;> try (cases hc; done)
  all_goals simp only [aop] at h ⊢
  case move => cases h; rfl
  case assign => cases h; rfl
  case pick => split at h <;> first | (cases h; rfl) | cases h
  case build =>
    replace h := Option.bind_eq_some_iff.1 h
    obtain ⟨ti, e1, h⟩ := h
    rw [e1]
    simp only [Option.bind_some]
    split at h
    · split at h
      · cases h
      · rename_i h0
        obtain ⟨cs, e2, h⟩ := Option.map_eq_some_iff.1 h
        cases h
        rw [if_neg h0, e2]; rfl
    · replace h := Option.bind_eq_some_iff.1 h
      obtain ⟨te, e2, h⟩ := h
      obtain ⟨cs, e3, h⟩ := Option.map_eq_some_iff.1 h
      cases h
      rw [e2]
      simp only [Option.bind_some, e3]; rfl
    · cases h
  case nilCheck => split at h <;> first | (cases h; rfl) | cases h
  case binOp => obtain ⟨u, e1, h⟩ := Option.map_eq_some_iff.1 h; cases h; rw [e1]; rfl
  case unOp => obtain ⟨u, e1, h⟩ := Option.map_eq_some_iff.1 h; cases h; rw [e1]; rfl
  case makeInterface =>
    replace h := Option.bind_eq_some_iff.1 h
    obtain ⟨ti, e1, h⟩ := h
    rw [e1]
    simp only [Option.bind_some]
    split at h <;> first | (cases h; rfl) | cases h
  case makeFunc fn first caps => cases fn <;> simp only at h ⊢ <;> first | (cases h; rfl) | cases h
  case fieldAddr =>
    replace h := Option.bind_eq_some_iff.1 h
    obtain ⟨ti, e1, h⟩ := h
    rw [e1]
    simp only [Option.bind_some]
    split at h
    · replace h := Option.bind_eq_some_iff.1 h
      obtain ⟨fd, e2, h⟩ := h
      replace h := Option.bind_eq_some_iff.1 h
      obtain ⟨tf, e3, h⟩ := h
      rw [e2]; simp only [Option.bind_some, e3]
      split at h
      · cases h
      · rename_i h0; cases h; rw [if_neg h0]
    · cases h
  case field =>
    replace h := Option.bind_eq_some_iff.1 h
    obtain ⟨ti, e1, h⟩ := h
    rw [e1]
    simp only [Option.bind_some]
    split at h
    · replace h := Option.bind_eq_some_iff.1 h
      obtain ⟨fd, e2, h⟩ := h
      replace h := Option.bind_eq_some_iff.1 h
      obtain ⟨tf, e3, h⟩ := h
      obtain ⟨u, e4, h⟩ := Option.map_eq_some_iff.1 h
      cases h
      rw [e2]; simp only [Option.bind_some, e3, e4]; rfl
    · cases h
  case indexAddr =>
    replace h := Option.bind_eq_some_iff.1 h
    obtain ⟨ti, e1, h⟩ := h
    rw [e1]
    simp only [Option.bind_some]
    split at h
    · replace h := Option.bind_eq_some_iff.1 h
      obtain ⟨te, e2, h⟩ := h
      rw [e2]; simp only [Option.bind_some]
      split at h
      · rename_i h0; cases h; rw [if_pos h0]
      · cases h
    · replace h := Option.bind_eq_some_iff.1 h
      obtain ⟨te, e2, h⟩ := h
      rw [e2]; simp only [Option.bind_some]
      split at h
      · rename_i h0; cases h; rw [if_pos h0]
      · cases h
    · cases h
  case index =>
    replace h := Option.bind_eq_some_iff.1 h
    obtain ⟨ti, e1, h⟩ := h
    rw [e1]
    simp only [Option.bind_some]
    split at h
    · split at h
      · rename_i h0
        obtain ⟨u, e4, h⟩ := Option.map_eq_some_iff.1 h
        cases h
        rw [if_pos h0, e4]; rfl
      · cases h
    · replace h := Option.bind_eq_some_iff.1 h
      obtain ⟨te, e2, h⟩ := h
      rw [e2]; simp only [Option.bind_some]
      split at h
      · rename_i h0
        obtain ⟨u, e4, h⟩ := Option.map_eq_some_iff.1 h
        cases h
        rw [if_pos h0, e4]; rfl
      · cases h
    · cases h
  case extract =>
    split at h
    · obtain ⟨u, e4, h⟩ := Option.map_eq_some_iff.1 h
      cases h
      rw [e4]; rfl
    · cases h
  case convert s d x =>
    exfalso
    split at hc <;> cases hc
  case call c =>
    cases hcc : c.callee with
    | value f => rw [hcc] at h; cases h
    | invoke a b => rw [hcc] at h; cases h
    | builtin b =>
      rw [hcc] at h hc
      simp only at h ⊢
      generalize c.args.toList.map (opd m) = xs at h ⊢
      have tys : ∀ {f : AV → TI → AH → Option (AV × AH)} {x : AV}, (∀ ti r, f x ti H = some r → f x ti H2 = some (r.1, H2)) →
          ((c.argTypes[0]?).bind fun t => (ap.ty t).bind fun ti => f x ti H) = some r → ((c.argTypes[0]?).bind fun t => (ap.ty t).bind fun ti => f x ti H2) = some (r.1, H2) := by
        intro f x hf h
        replace h := Option.bind_eq_some_iff.1 h
        obtain ⟨t, e1, h⟩ := h
        replace h := Option.bind_eq_some_iff.1 h
        obtain ⟨ti, e2, h⟩ := h
        rw [e1]; simp only [Option.bind_some, e2]
        exact hf ti r h
      cases b <;> simp only at hc <;> try (cases hc; done)
      case len =>
        cases xs with
        | nil => cases h
        | cons x xs =>
          cases xs with
          | cons _ _ => cases h
          | nil =>
            simp only [abuiltin] at h ⊢
            refine tys (f := fun x ti H => match ti.td, x with
              | .string, .str s => some (.int .i64 s.size, H)
              | .slice _, .slice _ n _ _ => some (.int .i64 n, H)
              | .array n _, _ => some (.int .i64 n, H)
              | _, _ => none) (fun ti r h => ?_) h
            split at h <;> first | (cases h; rfl) | cases h
      case cap =>
        cases xs with
        | nil => cases h
        | cons x xs =>
          cases xs with
          | cons _ _ => cases h
          | nil =>
            simp only [abuiltin] at h ⊢
            refine tys (f := fun x ti H => match ti.td, x with
              | .slice _, .slice (some _) _ (some c) _ => some (.int .i64 c, H)
              | .slice _, .slice none _ _ _ => some (.int .i64 0, H)
              | _, _ => none) (fun ti r h => ?_) h
            split at h <;> first | (cases h; rfl) | cases h
      case max =>
        simp only [abuiltin] at h ⊢
        obtain ⟨u, e4, h⟩ := Option.map_eq_some_iff.1 h
        cases h
        rw [e4]; rfl
      case min =>
        simp only [abuiltin] at h ⊢
        obtain ⟨u, e4, h⟩ := Option.map_eq_some_iff.1 h
        cases h
        rw [e4]; rfl

/-- What reads leaves all as it is. -/
theorem aop_same {lo : Nat} {m : List AV} {H : AH} {op : Op} {r : AV × AH} (hc : cls ap op = .q ∨ cls ap op = .h) (h : aop ap lo m H op = some r) : r.2 = H := by
  rcases hc with hc | hc
  · have := aop_free hc h H
    rw [h] at this
    exact congrArg Prod.snd (Option.some.inj this)
  · cases op <;> simp only [cls] at hc <;> try (cases hc; done)
    case load => simp only [aop] at h; obtain ⟨u, e1, h⟩ := Option.map_eq_some_iff.1 h; cases h; rfl
    case slice =>
      simp only [aop] at h
      replace h := Option.bind_eq_some_iff.1 h
      obtain ⟨ti, e1, h⟩ := h
      split at h
      · replace h := Option.bind_eq_some_iff.1 h
        obtain ⟨te, e2, h⟩ := h
        split at h
        · cases h
        · split at h
          · obtain ⟨u, e1, h⟩ := Option.map_eq_some_iff.1 h; cases h; rfl
          · cases h
      · split at h
        · cases h
        · obtain ⟨u, e1, h⟩ := Option.map_eq_some_iff.1 h; cases h; rfl
      · cases h
    case convert s d x =>
      simp only [aop, aconvert] at h
      replace h := Option.bind_eq_some_iff.1 h
      obtain ⟨ts, e1, h⟩ := h
      replace h := Option.bind_eq_some_iff.1 h
      obtain ⟨td, e2, h⟩ := h
      rw [e2] at hc
      simp only [Option.map_some] at hc
      split at h
      · cases h; rfl
      · cases h; rfl
      · rename_i htd _; rw [htd] at hc; cases hc
      · split at h
        · split at h
          · cases h; rfl
          · split at h
            · replace h := Option.bind_eq_some_iff.1 h
              obtain ⟨l, e3, h⟩ := h
              obtain ⟨u, e4, h⟩ := Option.map_eq_some_iff.1 h
              cases h; rfl
            · cases h
        · cases h
      · rename_i htd _; rw [htd] at hc; cases hc
      · cases h
    case call c =>
      exfalso
      cases hcc : c.callee with
      | value f => rw [hcc] at hc; cases hc
      | invoke a b => rw [hcc] at hc; cases hc
      | builtin b => rw [hcc] at hc; cases b <;> cases hc

/-- What an operation that makes a block makes, wherever it is numbered. -/
theorem raw_alloc (hg : TyAgree P ap) {m : List AV} {a : Act} (he : ER φ m a.tmps) {lo N : Nat} {o : Oper} {r : AV × AH} {A : AB} (hc : cls ap o.op = .a) (h : aop ap lo m (List.replicate N dead0) o.op = some r) (hA : r.2[N]? = some A) :
    ∃ v' c e, (execOp a.eval o).run P w = .ok (.value v') (w.alloc (.cells c e)) ∧ (∃ l, A = .cells l .rw ∧ LR φ l c 0 ∧ l.length ≤ c.size) ∧ ∀ φ2 : Inj, φ2 N = some ⟨w.heap.size, 0, c.size⟩ → VR φ2 r.1 v' := by
  obtain ⟨dst, op, type, pos, after, guard⟩ := o
  simp only at hc h
  have last : ∀ {l : List AV}, (List.replicate N dead0 ++ [AB.cells l .rw])[N]? = some A → A = .cells l .rw := by
    intro l h
    rw [List.getElem?_append_right (by simp)] at h
    simp at h
    exact h.symm
  have ptr : ∀ (c : Array Value) (φ2 : Inj), φ2 N = some ⟨w.heap.size, 0, c.size⟩ → VR φ2 (.ptr (some (N, 0))) (.pointer (some ⟨w.heap.size, 0, none⟩)) := fun c φ2 h => .ptr N 0 _ h
  cases op <;> simp only [cls] at hc <;> try (cases hc; done)
  case alloc t =>
    simp only [aop] at h
    obtain ⟨ti, e1, h⟩ := Option.map_eq_some_iff.1 h
    subst h
    obtain ⟨i, d, z, ht⟩ := hg.get e1
    simp only at hA
    refine ⟨.pointer (some ⟨w.heap.size, 0, none⟩), z.cells, t, ?_, ⟨_, last hA, ?_, by rw [ht.zero]; simp⟩, fun φ2 h2 => by simpa using ptr _ φ2 h2⟩
    · simp [execOp, Instr.alloc, zeroValue, typeInfo, ht.hi, ht.hz, newVar, newRow]
    · rw [ht.zero]; exact (er_ofS φ z.cells).lr
  case box t x =>
    simp only [aop] at h
    obtain ⟨cs, e1, h⟩ := Option.map_eq_some_iff.1 h
    subst h
    have hcs := vr_cells (vr_opd he x) e1
    refine ⟨.pointer (some ⟨w.heap.size, 0, none⟩), (a.eval x).cells, t, ?_, ⟨_, last hA, hcs.lr, by have := hcs.1; omega⟩, fun φ2 h2 => by simpa using ptr _ φ2 h2⟩
    simp [execOp, Instr.box, newVar, newRow]
  case buildSlice t len parts =>
    simp only [aop] at h
    replace h := Option.bind_eq_some_iff.1 h
    obtain ⟨ti, e1, h⟩ := h
    obtain ⟨i, d, z, ht⟩ := hg.get e1
    cases htd : ti.td <;> rw [htd] at h <;> try (cases h; done)
    rename_i e
    simp only at h
    replace h := Option.bind_eq_some_iff.1 h
    obtain ⟨te, e3, h⟩ := h
    obtain ⟨i1, d1, z1, ht1⟩ := hg.get e3
    split at h
    · cases h
    · rename_i hsz
      obtain ⟨cs, e2, h⟩ := Option.map_eq_some_iff.1 h
      subst h
      have hs := ht1.sz
      obtain ⟨c', k1, k2⟩ := fill_sound (place' := fun i => some (i * i1.size, i1.size)) he (fun i q hq => by rw [ht1.sz] at hq; exact hq) parts.toList _ cs ((Array.range (len * i1.size)).map (z1.cells[· % z1.cells.size]!))
        (by rw [ht1.zero]; exact er_zeros φ z1.cells len _ (by rw [ht1.zs])) e2
      have hlen : cs.length = len * i1.size := by
        have h1 := k2.1
        have : ∀ (ps : List (Nat × Value)) (c c' : Array Value), Instr.fill (fun i => some (i * i1.size, i1.size)) c ps = some c' → c'.size = c.size := by
          intro ps
          induction ps with
          | nil => intro c c' h; simp only [Instr.fill] at h; cases h; rfl
          | cons p r ih =>
            intro c c' h
            obtain ⟨j, x⟩ := p
            simp only [Instr.fill] at h
            split at h
            · cases h
            · rw [ih _ _ h, fill_step, setA_size]
        rw [this _ _ _ k1] at h1
        simpa using h1
      refine ⟨.slice (some ⟨w.heap.size, 0, none⟩) len len, c', e, ?_, ⟨_, last hA, k2.lr, by have := k2.1; omega⟩, fun φ2 h2 => ?_⟩
      · rw [← parts_list] at k1
        have hrun : (Instr.buildSlice t len (parts.map fun (i, x) => (i, a.eval x))).run P w = .ok (.slice (some ⟨w.heap.size, 0, none⟩) len len) (w.alloc (.cells c' e)) := by
          by_cases h0 : len * i1.size = 0
          · have k1' : Instr.fill (fun i => some (i * i1.size, i1.size)) #[] (parts.map fun (i, x) => (i, a.eval x)).toList = some c' := by
              rw [h0, show Array.map (fun x => z1.cells[x % z1.cells.size]!) (Array.range 0) = #[] from Array.eq_empty_of_size_eq_zero (by simp)] at k1
              exact k1
            simp only [parts_list] at k1'
            have hm : ∀ f : Nat → Value, Array.map f (Array.range 0) = #[] := fun f => Array.eq_empty_of_size_eq_zero (by simp)
            simp [Instr.buildSlice, run_underlying (td_slice ht htd), sizeOf, typeInfo, zeroValue, ht1.hi, h0, hm, k1', newRow]
          · exact run_buildSlice w t e len _ c' i1 z1 (td_slice ht htd) ht1.hi ht1.hz (by rw [← hs]; omega) h0 k1
        simp [execOp, hrun]
      · have hc : c'.size = len * i1.size := by rw [← k2.1]; exact hlen
        have h2' : φ2 (List.replicate N dead0).length = some ⟨w.heap.size, 0, c'.size⟩ := by simpa using h2
        refine .slice _ _ _ _ _ ⟨w.heap.size, 0, c'.size⟩ _ _ h2' (.inl rfl) (Nat.le_refl _) ?_ (.inl ⟨len, rfl, rfl⟩)
        show 0 + 0 + len * te.sz ≤ c'.size
        rw [hc, hs]; omega
  case makeSlice t l c =>
    have h0 := h
    simp only [aop] at h
    replace h := Option.bind_eq_some_iff.1 h
    obtain ⟨ti, e1, h⟩ := h
    obtain ⟨i, d, z, ht⟩ := hg.get e1
    cases htd : ti.td <;> rw [htd] at h <;> try (cases h; done)
    rename_i e
    simp only at h
    replace h := Option.bind_eq_some_iff.1 h
    obtain ⟨te, e2, h⟩ := h
    obtain ⟨i1, d1, z1, ht1⟩ := hg.get e2
    have hl := vr_opd he l
    have hcc := vr_opd he c
    split at h
    · rename_i n q hn hq
      rw [hn] at hl; rw [hq] at hcc
      have el : a.eval l = .int .i64 n := by generalize a.eval l = y at hl; cases hl; rfl
      have ec : a.eval c = .int .i64 q := by generalize a.eval c = y at hcc; cases hcc; rfl
      split at h
      · rename_i hcond
        obtain ⟨c0, c1, c2, c3, c4⟩ := hcond
        have hr := Option.some.inj h
        subst hr
        have hz := er_zeros φ z1.cells q.toNat (q.toNat * i1.size) (by rw [ht1.zs])
        rw [← ht1.zero] at hz
        have hw1 : IntKind.i64.wrap n = n := by
          simp only [IntKind.wrap, IntKind.signed, IntKind.bits, Bool.true_and]
          split <;> rename_i hh <;> simp at hh <;> omega
        have hw2 : IntKind.i64.wrap q = q := by
          simp only [IntKind.wrap, IntKind.signed, IntKind.bits, Bool.true_and]
          split <;> rename_i hh <;> simp at hh <;> omega
        have hby := ht1.by_
        have hs := ht1.sz
        unfold room at c2
        refine ⟨.slice (some ⟨w.heap.size, 0, none⟩) n.toNat q.toNat, (Array.range (q.toNat * i1.size)).map (z1.cells[· % z1.cells.size]!), e, ?_,
          ⟨_, last hA, hz.lr, by have := hz.1; simp at this; rw [List.length_flatten]; simp; omega⟩, fun φ2 h2 => ?_⟩
        · have hbm : (i1.bytes : Int) * q = q * te.by_ := by rw [hby, Int.mul_comm]
          have d1 : ¬ (q < 0) := by omega
          have d2 : ¬ (281474976710656 < (i1.bytes : Int) * q) := by rw [hbm]; omega
          have d3 : ¬ (n < 0) := by omega
          have d4 : ¬ (q < n) := by omega
          have d5 : ¬ (140737488355328 < q.toNat * i1.bytes) := by
            have : ((q.toNat * i1.bytes : Nat) : Int) = q * te.by_ := by rw [hby]; simp; rw [Int.max_eq_left (by omega)]
            omega
          have hrun : (Instr.makeSlice t (.int .i64 n) (.int .i64 q)).run P w = .ok (.slice (some ⟨w.heap.size, 0, none⟩) n.toNat q.toNat) (w.alloc (.cells ((Array.range (q.toNat * i1.size)).map (z1.cells[· % z1.cells.size]!)) e)) := by
            by_cases hz0 : q.toNat * i1.size = 0
            · have hm0 : q.toNat = 0 := by
                rcases Nat.mul_eq_zero.1 hz0 with h | h
                · exact h
                · omega
              obtain rfl : q = 0 := by omega
              obtain rfl : n = 0 := by omega
              simp [Instr.makeSlice, run_underlying (td_slice ht htd), asInt, asIntOf, typeInfo, ht1.hi, hw1, askRoom, roomBytes, sizeOf, newRow, show ∀ f : Nat → Value, Array.map f (Array.range 0) = #[] from fun f => Array.eq_empty_of_size_eq_zero (by simp)]
            · simp [Instr.makeSlice, run_underlying (td_slice ht htd), asInt, asIntOf, typeInfo, ht1.hi, hw1, hw2, d1, d2, d3, d4, askRoom, roomBytes, d5, sizeOf, hz0, zeroValue, ht1.hz, newRow]
          simp [execOp, el, ec, hrun]
        · have h2' : φ2 (List.replicate N dead0).length = some ⟨w.heap.size, 0, ((Array.range (q.toNat * i1.size)).map (z1.cells[· % z1.cells.size]!)).size⟩ := by simpa using h2
          refine .slice _ _ _ _ _ _ _ _ h2' (.inl rfl) (by omega) ?_ (.inl ⟨q.toNat, rfl, rfl⟩)
          simp
          rw [hs]; omega
      · cases h
    · cases h
  case convert s d x => exfalso; split at hc <;> cases hc
  case call c =>
    exfalso
    cases hcc : c.callee with
    | value f => rw [hcc] at hc; cases hc
    | invoke a b => rw [hcc] at hc; cases hc
    | builtin b => rw [hcc] at hc; cases b <;> cases hc
end
end Go.Ab
