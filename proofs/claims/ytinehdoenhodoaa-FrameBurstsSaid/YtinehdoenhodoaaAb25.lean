import Derived.Test.YtinehdoenhodoaaAb24
import Derived.RowKit
import Derived.ChangeMaps5
import Derived.ChangeShapes
/-! From a law's row to its carrying out. -/
set_option linter.unusedVariables false
set_option linter.unusedSimpArgs false
namespace Go.Ab
open Go.WideShapes Go.RowKit
theorem cell_has {P : Program} {w : World} {r : Reach} {base : Nat} {u : TypeId} {a : Addr} {len cap : Nat} (h : Cell.okWide P w r base u (.slice (some a) len cap)) : HasBlk w := by
  have h2 : Cell.ok P w r base u (.slice (some a) len cap) := by
    unfold Cell.okWide at h
    cases hu : P.underlying u with
    | none => rw [hu] at h; exact h
    | some d => rw [hu] at h; cases d <;> exact h
  unfold Cell.ok at h2
  cases hu : P.underlying u with
  | none => rw [hu] at h2; exact h2.elim
  | some d =>
    rw [hu] at h2
    cases d with
    | slice e =>
      obtain ⟨_, _, h3⟩ := h2
      simp only [World.has] at h3
      obtain ⟨_, _, row, cells, h4, _⟩ := h3
      unfold World.shape? at h4
      split at h4
      · rename_i c e' fr h5; exact ⟨_, c, e', fr, h5⟩
      · cases h4
    | _ => exact h2.elim
theorem val_has {P : Program} {w : World} {r : Reach} {base : Nat} {t : TypeId} {v : Value} (h : Value.okWide P w r base t v) (g : ∃ a len cap, Value.slice (some a) len cap ∈ v.cells.toList) : HasBlk w := by
  obtain ⟨a, len, cap, hm⟩ := g
  unfold Value.okWide at h
  have row : ∀ cs, v = .agg cs → Row.okWide P w r base t cs → HasBlk w := fun cs hv hr => by
    subst hv
    obtain ⟨ts, _, _, h3⟩ := hr
    obtain ⟨i, hi⟩ := List.getElem?_of_mem hm
    obtain ⟨u, _, h4⟩ := h3 i _ (by simpa [Value.cells] using hi)
    exact cell_has h4
  have cell : Cell.okWide P w r base t v → HasBlk w := fun h => by
    cases v <;> first
      | (simp [Value.cells] at hm; done)
      | skip
    · rename_i a' l' c'
      simp [Value.cells] at hm
      obtain ⟨rfl, rfl, rfl⟩ := hm
      exact cell_has h
    · rename_i cells _
      exfalso
      have h2 : Cell.ok P w r base t (.agg cells) := by
        unfold Cell.okWide at h
        cases hu : P.underlying t with
        | none => rw [hu] at h; exact h
        | some d => rw [hu] at h; cases d <;> exact h
      unfold Cell.ok at h2
      cases hu : P.underlying t with
      | none => rw [hu] at h2; exact h2
      | some d => rw [hu] at h2; cases d <;> exact h2
  split at h
  · obtain ⟨cs, h1, _, h2⟩ := h; exact row cs h1 h2
  · obtain ⟨cs, h1, _, h2⟩ := h; exact row cs h1 h2
  · exact cell h

/-- An argument out of its cells. -/
def argA (ap : AP) (t : Nat) (as : List AV) : AV := match ap.ty t with
  | some ti => if ti.td.isAgg then .agg as else (as.head?).getD .undef
  | none => .undef
section
variable {Hh : Type} {enc : TypeId × Value → Hh} {P : Program} {w : World} {ap : AP}
theorem arg_opn (hg : TyAgree P ap) {m : Nat} {t : Nat} {v : Value} {d : DataW Hh} {p : List MemPlace} {r : Reach} {b0 : Nat} (hok : okT ap m t = true) (hval : Value.okWide P w r b0 t v) (hT : DataW.Trod enc P w 0 (fun _ => true) true t v d p) {φ : Inj} {H : AH} (hr : Rel φ H w.heap) (hn : NoOwn H) :
    ∃ φ' X as, Rel φ' (H ++ X) w.heap ∧ NoOwn (H ++ X) ∧ φ.le φ' ∧ AR ap m (H ++ X) t as ∧ VR φ' (argA ap t as) v := by
  obtain ⟨fuel, hf⟩ := hT
  obtain ⟨φ', X, as, r', n', l', al, av, ar⟩ := opn hg fuel t _ _ hf m hok (fun g => val_has hval g) φ H hr hn
  refine ⟨φ', X, as, r', n', l', ar, ?_⟩
  cases m with
  | zero => cases hok
  | succ m =>
  unfold okT at hok
  cases hti : ap.ty t with
  | none => rw [hti] at hok; cases hok
  | some ti =>
    rw [hti] at hok
    simp only at hok
    obtain ⟨inf, dd, z, tok⟩ := hg.get hti
    have htd := tok.td
    have one : ∀ x, v.cells.toList = [x] → v = x → (ti.td.isAgg = false) → VR φ' (argA ap t as) v := fun x hx hv ha => by
      rw [hx] at al av
      unfold argA
      rw [hti]
      simp only
      rw [ha]
      simp only [Bool.false_eq_true, if_false]
      match as, al with
      | [a], _ =>
        rw [hv]
        exact av 0 a x rfl rfl
    cases htd' : ti.td with
    | bool =>
      rw [htd'] at htd
      have hd : dd = .bool := by cases dd <;> simp [tdOf] at htd <;> first | rfl | (split at htd <;> simp at htd)
      subst hd
      obtain ⟨b, rfl⟩ := okWide_bool tok.hd hval
      exact one _ rfl rfl (by rw [htd']; rfl)
    | int k =>
      rw [htd'] at htd
      have hd : dd = .int k := by cases dd <;> simp [tdOf] at htd <;> first | (subst htd; rfl) | (split at htd <;> simp at htd)
      subst hd
      obtain ⟨b, rfl⟩ := okWide_int tok.hd hval
      exact one _ rfl rfl (by rw [htd']; rfl)
    | string =>
      rw [htd'] at htd
      have hd : dd = .string := by cases dd <;> simp [tdOf] at htd <;> first | rfl | (split at htd <;> simp at htd)
      subst hd
      obtain ⟨b, rfl⟩ := okWide_string tok.hd hval
      exact one _ rfl rfl (by rw [htd']; rfl)
    | slice e =>
      rw [htd'] at htd
      have hd : dd = .slice e := by cases dd <;> simp [tdOf] at htd <;> first | (subst htd; rfl) | (split at htd <;> simp at htd)
      subst hd
      obtain ⟨a, l, c, rfl⟩ := okWide_slice tok.hd hval
      exact one _ rfl rfl (by rw [htd']; rfl)
    | struct fs =>
      rw [htd'] at htd
      have hd : ∃ fs', dd = .struct fs' := by
        cases dd <;> simp only [tdOf] at htd <;> first | (cases htd; done) | exact ⟨_, rfl⟩
      obtain ⟨fs', rfl⟩ := hd
      obtain ⟨cs, rfl, hsz⟩ := okWide_struct tok.hd hval
      unfold argA
      rw [hti]
      simp only
      rw [htd']
      simp only [TD.isAgg, if_true]
      refine .agg as cs (by simpa [Value.cells] using al) (fun i a v h1 h2 => av i a v h1 (by simpa [Value.cells] using h2))
    | _ => rw [htd'] at hok; cases hok
theorem args_opn (hg : TyAgree P ap) {m : Nat} {r : Reach} {b0 : Nat} : ∀ (ts : List Nat) (vs : List Value) (ds : List (DataW Hh)) (p : List MemPlace), DataW.TrodAll enc P w 0 (fun _ => true) true ts vs ds p → (∀ t ∈ ts, okT ap m t = true) →
    (∀ (i : Nat) t v, ts[i]? = some t → vs[i]? = some v → Value.okWide P w r b0 t v) → ∀ (φ : Inj) (H : AH), Rel φ H w.heap → NoOwn H →
    ∃ (φ' : Inj) (X : AH) (ass : List (List AV)), Rel φ' (H ++ X) w.heap ∧ NoOwn (H ++ X) ∧ φ.le φ' ∧ ass.length = ts.length ∧ (∀ (i : Nat) t as, ts[i]? = some t → ass[i]? = some as → AR ap m (H ++ X) t as) ∧ ER φ' (List.zipWith (argA ap) ts ass) vs.toArray
  | [], [], [], p, h, _, _, φ, H, hr, hn => ⟨φ, [], [], by rwa [List.append_nil], by rwa [List.append_nil], Inj.le_refl φ, rfl, fun i t as h => by simp at h, rfl, fun i a v h => by simp at h⟩
  | [], _ :: _, _, _, h, _, _, _, _, _, _ => by cases h
  | [], [], _ :: _, _, h, _, _, _, _, _, _ => by cases h
  | _ :: _, [], _, _, h, _, _, _, _, _, _ => by cases h
  | _ :: _, _ :: _, [], _, h, _, _, _, _, _, _ => by cases h
  | t :: ts, v :: vs, d :: ds, _, ⟨p, q, h1, h2, _⟩, hok, hval, φ, H, hr, hn => by
    obtain ⟨φ1, X1, as1, r1, n1, l1, a1, v1⟩ := arg_opn hg (hok t (by simp)) (hval 0 t v rfl rfl) h1 hr hn
    obtain ⟨φ2, X2, ass, r2, n2, l2, len2, a2, e2⟩ := args_opn hg ts vs ds q h2 (fun t ht => hok t (by simp [ht])) (fun i t v h1 h2 => hval (i + 1) t v (by simpa using h1) (by simpa using h2)) φ1 (H ++ X1) r1 n1
    refine ⟨φ2, X1 ++ X2, as1 :: ass, by rw [← List.append_assoc]; exact r2, by rw [← List.append_assoc]; exact n2, Inj.le_trans l1 l2, by simp [len2], fun i t' as h3 h4 => ?_, ?_⟩
    · rw [← List.append_assoc]
      cases i with
      | zero =>
        simp at h3 h4; subst h3; subst h4
        exact a1.keep (.app _ _)
      | succ i => exact a2 i t' as (by simpa using h3) (by simpa using h4)
    · refine ⟨by have := e2.1; simp at this ⊢; exact this, fun i a u h3 h4 => ?_⟩
      cases i with
      | zero =>
        simp at h3 h4; subst h3; subst h4
        exact v1.mono l2
      | succ i => exact e2.2 i a u (by simpa using h3) (by simpa using h4)
/-- A law, carried out, is a law. -/
theorem law_ok (hg : Agree P ap) {k n m : Nat} {ts : List Nat} {vs : List Value} {ds : List (DataW Hh)} {p : List MemPlace} {r : Reach} {b0 : Nat} (hp : ap.prim n = none) (hT : DataW.TrodAll enc P w 0 (fun _ => true) true ts vs ds p) (hok : ts.all (okT ap m) = true)
    (hval : ∀ (i : Nat) t v, ts[i]? = some t → vs[i]? = some v → Value.okWide P w r b0 t v)
    (main : ∀ (H : AH) (ass : List (List AV)), ass.length = ts.length → (∀ (i : Nat) t as, ts[i]? = some t → ass[i]? = some as → AR ap m H t as) → Hx (callA ap k (.func n [] []) (List.zipWith (argA ap) ts ass) 0 H) fun r => r.1 = .bool true) :
    Calls P n vs.toArray w fun e w' => e = .returned (.bool true) ∧ Below w.heap.size w w' := by
  obtain ⟨φ, X, ass, hr, hn, _, hl, ha, he⟩ := args_opn (ap := ap) (m := m) hg.toTyAgree ts vs ds p hT (fun t ht => List.all_eq_true.1 hok t ht) hval (fun _ => none) [] (Rel.empty w.heap) noOwn_nil
  obtain ⟨⟨v, H'⟩, e1, e2⟩ := (main _ ass hl ha).ex
  simp only at e2
  subst e2
  exact calls_true hg hp e1 hr hn he
/-- A slice of bytes. -/
theorem ar_bytes {m : Nat} {H : AH} {t e : Nat} {ti te : TI} {as : List AV} (h : AR ap m H t as) (ht : ap.ty t = some ti) (htd : ti.td = .slice e) (he : ap.ty e = some te) (hed : te.td = .int .u8) (hs : te.sz = 1) : ∃ v bs, as = [v] ∧ B8 H v bs ∧ Byt bs := by
  cases m with
  | zero => cases h
  | succ m =>
    obtain ⟨ti', h1, h2⟩ := h
    rw [ht] at h1; cases h1
    rw [htd] at h2
    rcases h2 with rfl | ⟨b, len, cap, es, te', g1, g2, rfl, g4, g5, g6, g7⟩
    · exact ⟨_, [], rfl, .nil _ _, byt_nil⟩
    · rw [he] at g1; cases g1
      have hx : ∀ x ∈ es, ∃ z, x = [.int .u8 z] ∧ (Lit.int .u8 z).wf = true := fun x hx => by
        obtain ⟨_, k2⟩ := g7 x hx
        cases m with
        | zero => cases k2
        | succ m =>
          obtain ⟨te'', k3, k4⟩ := k2
          rw [he] at k3; cases k3
          rw [hed] at k4
          exact k4
      have hall : ∀ (es : List (List AV)), (∀ x ∈ es, ∃ z, x = [.int .u8 z] ∧ (Lit.int .u8 z).wf = true) → ∃ bs, es.flatten = u8s bs ∧ Byt bs ∧ bs.length = es.length := by
        intro es
        induction es with
        | nil => intro _; exact ⟨[], rfl, byt_nil, rfl⟩
        | cons x r ih =>
          intro hx
          obtain ⟨bs, q1, q2, q3⟩ := ih fun y hy => hx y (by simp [hy])
          obtain ⟨z, rfl, hz⟩ := hx x (by simp)
          refine ⟨z :: bs, by rw [List.flatten_cons, q1]; rfl, byt_cons ?_ q2, by simp [q3]⟩
          simp [Lit.wf, IntKind.has, IntKind.min, IntKind.max, IntKind.bits, IntKind.signed] at hz
          omega
      obtain ⟨bs, q1, q2, q3⟩ := hall es hx
      refine ⟨_, bs, rfl, ?_, q2⟩
      rw [hs]
      exact .at_ b 0 len (some cap) _ _ Nat.one_pos g4 (by rw [q1]; simp; omega) (by rw [List.drop_zero, q1, List.take_of_length_le (by simp; omega)]) (fun k hk => by cases hk; exact g6)
theorem argA_one {t : Nat} {ti : TI} {v : AV} (ht : ap.ty t = some ti) (h : ti.td.isAgg = false) : argA ap t [v] = v := by
  unfold argA
  rw [ht]
  simp only
  rw [h]
  rfl
theorem ar_int {m : Nat} {H : AH} {t : Nat} {ti : TI} {k : IntKind} {as : List AV} (h : AR ap m H t as) (ht : ap.ty t = some ti) (htd : ti.td = .int k) : ∃ z, as = [.int k z] ∧ (Lit.int k z).wf = true := by
  cases m with
  | zero => cases h
  | succ m =>
    obtain ⟨ti', h1, h2⟩ := h
    rw [ht] at h1; cases h1
    rw [htd] at h2
    exact h2
/-- A slice, its elements' cells one by one. -/
theorem ar_slice {m : Nat} {H : AH} {t e : Nat} {ti te : TI} {al : List AV} (h : AR ap m H t al) (ht : ap.ty t = some ti) (htd : ti.td = .slice e) (he : ap.ty e = some te) :
    ∃ (v : AV) (es : List (List AV)) (m' : Nat), al = [v] ∧ SL H te.sz v es.flatten ∧ ∀ x ∈ es, x.length = te.sz ∧ AR ap m' H e x := by
  cases m with
  | zero => cases h
  | succ m =>
    obtain ⟨ti', h1, h2⟩ := h
    rw [ht] at h1; cases h1
    rw [htd] at h2
    rcases h2 with rfl | ⟨b, len, cap, es, te', g1, g2, rfl, g4, g5, g6, g7⟩
    · exact ⟨_, [], 0, rfl, .nil _ _, by simp⟩
    · rw [he] at g1; cases g1
      have hfl := flatten_len es (fun x hx => (g7 x hx).1)
      rw [g5] at hfl
      exact ⟨_, es, m, rfl, .at_ b 0 len (some cap) _ _ g2 g4 (by omega) (by rw [List.drop_zero, List.take_of_length_le (by omega)]) (fun k hk => by cases hk; exact g6), g7⟩
theorem ar_struct {m : Nat} {H : AH} {t : Nat} {ti : TI} {fs : List (Nat × Nat)} {al : List AV} (h : AR ap m H t al) (ht : ap.ty t = some ti) (htd : ti.td = .struct fs) :
    ∃ (parts : List (List AV)) (m' : Nat), al = parts.flatten ∧ parts.length = fs.length ∧ ∀ (i : Nat) f p, fs[i]? = some f → parts[i]? = some p → AR ap m' H f.2 p := by
  cases m with
  | zero => cases h
  | succ m =>
    obtain ⟨ti', h1, h2⟩ := h
    rw [ht] at h1; cases h1
    rw [htd] at h2
    obtain ⟨parts, g1, g2, g3⟩ := h2
    exact ⟨parts, m, g1, g2, fun i f p h1 h2 => (g3 i f p h1 h2).choose_spec.2.2⟩
theorem list_choose {α β : Type} {R : α → β → Prop} : ∀ (es : List α), (∀ x ∈ es, ∃ a, R x a) → ∃ l : List β, l.length = es.length ∧ ∀ (i : Nat) x a, es[i]? = some x → l[i]? = some a → R x a
  | [], _ => ⟨[], rfl, fun i x a h => by simp at h⟩
  | x :: es, h => by
    obtain ⟨l, h1, h2⟩ := list_choose es fun y hy => h y (by simp [hy])
    obtain ⟨a, ha⟩ := h x (by simp)
    refine ⟨a :: l, by simp [h1], fun i y b g1 g2 => ?_⟩
    cases i with
    | zero => simp at g1 g2; subst g1; subst g2; exact ha
    | succ i => exact h2 i y b (by simpa using g1) (by simpa using g2)
theorem flatten_cut {α : Type} {sz : Nat} : ∀ (l : List (List α)), (∀ x ∈ l, x.length = sz) → ∀ (i : Nat) x, l[i]? = some x → (l.flatten.drop (i * sz)).take sz = x
  | [], _, i, x, h => by simp at h
  | y :: l, h, i, x, hx => by
    have hy := h y (by simp)
    cases i with
    | zero =>
      simp at hx; subst hx
      rw [Nat.zero_mul, List.drop_zero, List.flatten_cons, List.take_left' hy]
    | succ i =>
      rw [List.flatten_cons, Nat.add_mul, Nat.one_mul, Nat.add_comm, ← List.drop_drop, List.drop_left' hy]
      exact flatten_cut l (fun z hz => h z (by simp [hz])) i x (by simpa using hx)
/-- Element i of a slice of structs. -/
theorem sle_get {H : AH} {sz : Nat} {v : AV} {es : List (List AV)} (h : SL H sz v es.flatten) (hs : ∀ x ∈ es, x.length = sz) (hz : 0 < sz) {i : Nat} {x : List AV} (hx : es[i]? = some x) :
    ∃ b o c l, v = .slice (some (b, o)) es.length c sz ∧ rowOf H b = some l ∧ o + i * sz + sz ≤ l.length ∧ (l.drop (o + i * sz)).take sz = x ∧ ∀ j, j < sz → l[o + i * sz + j]? = x[j]? := by
  have hi : i < es.length := (List.getElem?_eq_some_iff.1 hx).1
  have hl := flatten_len es hs
  obtain ⟨b, o, n, c, l, rfl, h1, h2, h3, h4⟩ := h.get (i := i) (by rw [hl]; exact Nat.mul_le_mul_right sz hi) hz
  obtain ⟨a', n', c', s', e, e2⟩ := h.form
  injection e with _ e _ _
  subst e
  rw [hl] at e2
  have hn := Nat.eq_of_mul_eq_mul_right hz e2
  subst hn
  rw [flatten_cut es hs i x hx] at h4
  refine ⟨b, o, c, l, rfl, h2, h3, h4, fun j hj => ?_⟩
  rw [← h4, List.getElem?_take_of_lt hj, List.getElem?_drop]
theorem sle_form {H : AH} {sz : Nat} {v : AV} {es : List (List AV)} (h : SL H sz v es.flatten) (hs : ∀ x ∈ es, x.length = sz) (hz : 0 < sz) : ∃ a c s, v = .slice a es.length c s := by
  obtain ⟨a', n', c', s', e, e2⟩ := h.form
  rw [flatten_len es hs] at e2
  exact ⟨a', c', s', by rw [e, Nat.eq_of_mul_eq_mul_right hz e2]⟩
end
end Go.Ab
