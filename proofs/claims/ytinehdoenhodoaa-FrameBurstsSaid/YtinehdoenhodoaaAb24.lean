import Derived.Test.YtinehdoenhodoaaAb23
import Derived.ChangeArms
/-! Arguments of any shape (whole numbers, bools, strings, structs, slices of them): their reading. -/
set_option linter.unusedVariables false
set_option linter.unusedSimpArgs false
namespace Go.Ab
/-- What an argument's cells look like. -/
def AR (ap : AP) : Nat → AH → Nat → List AV → Prop
  | 0, _, _, _ => False
  | n + 1, H, t, as => ∃ ti, ap.ty t = some ti ∧ match ti.td with
    | .bool => ∃ b, as = [.bool b]
    | .int k => ∃ z, as = [.int k z] ∧ (Lit.int k z).wf = true
    | .string => ∃ s : ByteArray, as = [.str s]
    | .slice e => as = [.slice none 0 (some 0) 0] ∨ ∃ (b len cap : Nat) (es : List (List AV)) (te : TI), ap.ty e = some te ∧ 0 < te.sz ∧ as = [.slice (some (b, 0)) len (some cap) te.sz] ∧ rowOf H b = some es.flatten ∧ es.length = len ∧ len ≤ cap ∧ ∀ x ∈ es, x.length = te.sz ∧ AR ap n H e x
    | .struct fs => ∃ parts : List (List AV), as = parts.flatten ∧ parts.length = fs.length ∧ ∀ (i : Nat) f p, fs[i]? = some f → parts[i]? = some p → ∃ tf, ap.ty f.2 = some tf ∧ p.length = tf.sz ∧ AR ap n H f.2 p
    | _ => False
theorem AR.keep {ap : AP} : ∀ {n : Nat} {H H' : AH} {t : Nat} {as : List AV}, AR ap n H t as → Chg [] H H' → AR ap n H' t as
  | 0, _, _, _, _, h, _ => by cases h
  | n + 1, H, H', t, as, ⟨ti, h1, h2⟩, c => by
    refine ⟨ti, h1, ?_⟩
    revert h2
    cases ti.td <;> simp only <;> try exact id
    · rename_i e
      rintro (h | ⟨b, len, cap, es, te, g1, g2, g3, g4, g5, g6, g7⟩)
      · exact .inl h
      · exact .inr ⟨b, len, cap, es, te, g1, g2, g3, c.row g4 (by simp), g5, g6, fun x hx => ⟨(g7 x hx).1, (g7 x hx).2.keep c⟩⟩
    · rename_i fs
      rintro ⟨parts, g1, g2, g3⟩
      refine ⟨parts, g1, g2, fun i f p h1 h2 => ?_⟩
      obtain ⟨tf, k1, k2, k3⟩ := g3 i f p h1 h2
      exact ⟨tf, k1, k2, k3.keep c⟩
/-- Fields lie one behind the other. -/
def offOk (ap : AP) : Nat → List (Nat × Nat) → Option Nat
  | o, [] => some o
  | o, f :: r => if f.1 = o then (ap.ty f.2).bind fun tf => offOk ap (o + tf.sz) r else none
/-- Types that are read. -/
def okT (ap : AP) : Nat → Nat → Bool
  | 0, _ => false
  | n + 1, t => match ap.ty t with
    | none => false
    | some ti => match ti.td with
      | .bool | .int _ | .string => ti.sz == 1
      | .slice e => ti.sz == 1 && (match ap.ty e with | some te => decide (0 < te.sz) | none => false) && okT ap n e
      | .struct fs => offOk ap 0 fs == some ti.sz && fs.all fun f => okT ap n f.2
      | _ => false
def HasBlk (w : World) : Prop := ∃ (b : Nat) (c : Array Value) (e : TypeId) (fr : Nat × Nat), w.heap[b]? = some (.cells c e fr)
/-- Cells, read. -/
def Opn (ap : AP) (n : Nat) (φ : Inj) (H : AH) (w : World) (t : Nat) (cs : List Value) : Prop :=
  ∃ φ' X as, Rel φ' (H ++ X) w.heap ∧ NoOwn (H ++ X) ∧ φ.le φ' ∧ as.length = cs.length ∧ (∀ (i : Nat) (a : AV) (v : Value), as[i]? = some a → cs[i]? = some v → VR φ' a v) ∧ AR ap n (H ++ X) t as
theorem noOwn_app {H X : AH} (h : NoOwn H) (g : NoOwn X) : NoOwn (H ++ X) := fun A hA => (List.mem_append.1 hA).elim (h A) (g A)
theorem one_vr {φ : Inj} {a : AV} {v : Value} (h : VR φ a v) : ∀ (i : Nat) (x : AV) (y : Value), [a][i]? = some x → [v][i]? = some y → VR φ x y := fun i x y h1 h2 => by
  cases i with
  | zero => simp at h1 h2; subst h1; subst h2; exact h
  | succ i => simp at h1
theorem scalar_opn {ap : AP} {n : Nat} {φ : Inj} {H : AH} {w : World} {t : Nat} {a : AV} {v : Value} (hr : Rel φ H w.heap) (hn : NoOwn H) (h : VR φ a v) (g : AR ap n H t [a]) : Opn ap n φ H w t [v] :=
  ⟨φ, [], [a], by rwa [List.append_nil], by rwa [List.append_nil], Inj.le_refl φ, rfl, one_vr h, by rwa [List.append_nil]⟩
theorem cells_len {w : World} {base : Nat} {a : Addr} {n : Nat} {cs : List Value} (h : w.cells? base a n = some cs) : cs.length = n ∧ ∀ i, i < n → w.cell? (a.add i) = cs[i]? := by
  have := World.cells?_some h
  exact ⟨this.2.1, fun i hi => this.2.2 i hi⟩

section
variable {Hh : Type} {enc : TypeId × Value → Hh} {P : Program} {w : World} {base : Nat} {ap : AP}
/-- Several in a row. -/
theorem opn_list {n : Nat} (css : List (List Value)) (ts : List Nat) (hts : ts.length = css.length)
    (ih : ∀ (i : Nat) t cs, ts[i]? = some t → css[i]? = some cs → ∀ φ H, Rel φ H w.heap → NoOwn H → Opn ap n φ H w t cs) (φ : Inj) (H : AH) (hr : Rel φ H w.heap) (hn : NoOwn H) :
    ∃ (φ' : Inj) (X : AH) (ass : List (List AV)), Rel φ' (H ++ X) w.heap ∧ NoOwn (H ++ X) ∧ φ.le φ' ∧ ass.length = css.length ∧ (∀ (i : Nat) as cs, ass[i]? = some as → css[i]? = some cs → as.length = cs.length ∧ ∀ (j : Nat) (a : AV) (v : Value), as[j]? = some a → cs[j]? = some v → VR φ' a v) ∧
      ∀ (i : Nat) as t, ass[i]? = some as → ts[i]? = some t → AR ap n (H ++ X) t as := by
  induction css generalizing ts φ H with
  | nil => exact ⟨φ, [], [], by rwa [List.append_nil], by rwa [List.append_nil], Inj.le_refl φ, rfl, fun i as cs h => by simp at h, fun i as t h => by simp at h⟩
  | cons cs css IH =>
    cases ts with
    | nil => simp at hts
    | cons t ts =>
      obtain ⟨φ1, X1, as1, r1, n1, l1, len1, v1, a1⟩ := ih 0 t cs rfl rfl φ H hr hn
      obtain ⟨φ2, X2, ass, r2, n2, l2, len2, v2, a2⟩ := IH ts (by simpa using hts) (fun i t cs h1 h2 => ih (i + 1) t cs (by simpa using h1) (by simpa using h2)) φ1 (H ++ X1) r1 n1
      refine ⟨φ2, X1 ++ X2, as1 :: ass, by rw [← List.append_assoc]; exact r2, by rw [← List.append_assoc]; exact n2, Inj.le_trans l1 l2, by simp [len2], fun i as cs' h1 h2 => ?_, fun i as t' h1 h2 => ?_⟩
      · cases i with
        | zero =>
          simp at h1 h2; subst h1; subst h2
          exact ⟨len1, fun j a v e1 e2 => (v1 j a v e1 e2).mono l2⟩
        | succ i => exact v2 i as cs' (by simpa using h1) (by simpa using h2)
      · rw [← List.append_assoc]
        cases i with
        | zero =>
          simp at h1 h2; subst h1; subst h2
          exact a1.keep (.app _ _)
        | succ i => exact a2 i as t' (by simpa using h1) (by simpa using h2)

theorem cell_blk {a : Addr} {v : Value} (h : w.cell? a = some v) : a.spot = none ∧ ∃ c e fr, w.heap[a.block]? = some (.cells c e fr) ∧ c[a.off]? = some v := by
  unfold World.cell? at h
  split at h
  · rename_i c e fr hb
    split at h
    · cases h
    · rename_i hs
      refine ⟨by simpa using hs, c, e, fr, hb, h⟩
  · cases h
theorem add_off (a : Addr) (h : a.spot = none) (i : Nat) : a.add i = ⟨a.block, a.off + i, none⟩ := by
  obtain ⟨b, o, s⟩ := a
  simp only at h
  subst h
  unfold Addr.add
  split <;> simp_all
theorem flatten_get {α : Type} {sz : Nat} (hz : 0 < sz) : ∀ (l : List (List α)), (∀ x ∈ l, x.length = sz) → ∀ (i j : Nat), j < sz → l.flatten[i * sz + j]? = (l[i]?).bind fun x => x[j]?
  | [], _, i, j, _ => by simp
  | x :: l, h, i, j, hj => by
    have hx := h x (by simp)
    cases i with
    | zero =>
      simp only [Nat.zero_mul, Nat.zero_add, List.flatten_cons, List.getElem?_cons_zero, Option.bind_some]
      rw [List.getElem?_append_left (by omega)]
    | succ i =>
      rw [List.flatten_cons, List.getElem?_append_right (by rw [hx, Nat.add_mul]; omega), hx, show (i + 1) * sz + j - sz = i * sz + j by rw [Nat.add_mul]; omega]
      simpa using flatten_get hz l (fun y hy => h y (by simp [hy])) i j hj
theorem flatten_len {α : Type} {sz : Nat} : ∀ (l : List (List α)), (∀ x ∈ l, x.length = sz) → l.flatten.length = l.length * sz
  | [], _ => by simp
  | x :: l, h => by
    rw [List.flatten_cons, List.length_append, h x (by simp), flatten_len l (fun y hy => h y (by simp [hy])), List.length_cons, Nat.add_mul]
    omega

theorem flat_rel {φ : Inj} : ∀ (ass : List (List AV)) (css : List (List Value)), ass.length = css.length → (∀ (i : Nat) as cs, ass[i]? = some as → css[i]? = some cs → as.length = cs.length ∧ ∀ (j : Nat) (a : AV) (v : Value), as[j]? = some a → cs[j]? = some v → VR φ a v) →
    ass.flatten.length = css.flatten.length ∧ ∀ (j : Nat) (a : AV) (v : Value), ass.flatten[j]? = some a → css.flatten[j]? = some v → VR φ a v
  | [], [], _, _ => ⟨rfl, fun j a v h => by simp at h⟩
  | [], _ :: _, h, _ => by simp at h
  | _ :: _, [], h, _ => by simp at h
  | as :: ass, cs :: css, h, g => by
    obtain ⟨l0, v0⟩ := g 0 as cs rfl rfl
    obtain ⟨l1, v1⟩ := flat_rel ass css (by simpa using h) (fun i as cs h1 h2 => g (i + 1) as cs (by simpa using h1) (by simpa using h2))
    refine ⟨by simp only [List.flatten_cons, List.length_append]; omega, fun j a v h1 h2 => ?_⟩
    rw [List.flatten_cons] at h1 h2
    by_cases hj : j < as.length
    · rw [List.getElem?_append_left hj] at h1
      rw [List.getElem?_append_left (by omega)] at h2
      exact v0 j a v h1 h2
    · rw [List.getElem?_append_right (by omega)] at h1 h2
      rw [← l0] at h2
      exact v1 _ a v h1 h2
def szOf (ap : AP) (t : Nat) : Nat := ((ap.ty t).map TI.sz).getD 0
theorem off_parts : ∀ (fs : List (Nat × Nat)) (o e : Nat) (cs : List Value), offOk ap o fs = some e → e ≤ cs.length → o ≤ e ∧ (fs.map fun f => (cs.drop f.1).take (szOf ap f.2)).flatten = (cs.drop o).take (e - o)
  | [], o, e, cs, h, _ => by simp only [offOk, Option.some.injEq] at h; subst h; simp
  | f :: r, o, e, cs, h, hl => by
    simp only [offOk] at h
    split at h
    · rename_i ho
      obtain ⟨tf, h1, h2⟩ := Option.bind_eq_some_iff.1 h
      obtain ⟨g1, g2⟩ := off_parts r (o + tf.sz) e cs h2 hl
      refine ⟨by omega, ?_⟩
      have hs : szOf ap f.2 = tf.sz := by simp [szOf, h1]
      rw [List.map_cons, List.flatten_cons, g2, ho, hs, show e - o = tf.sz + (e - (o + tf.sz)) by omega, List.take_add, List.drop_drop]
    · cases h
theorem opn (hg : TyAgree P ap) : ∀ (n : Nat) (t : Nat) (cs : List Value) (x : DataW Hh × List MemPlace), DataW.trod enc P w base (fun _ => true) true n t cs = some x → ∀ m, okT ap m t = true →
    ((∃ a len cap, Value.slice (some a) len cap ∈ cs) → HasBlk w) → ∀ (φ : Inj) (H : AH), Rel φ H w.heap → NoOwn H → Opn ap m φ H w t cs
  | 0, t, cs, x, h => by simp [DataW.trod] at h
  | n + 1, t, cs, x, h => by
    intro m hok hblk φ H hr hn
    cases m with
    | zero => cases hok
    | succ m =>
    unfold okT at hok
    cases hti : ap.ty t with
    | none => rw [hti] at hok; cases hok
    | some ti =>
      rw [hti] at hok
      simp only at hok
      obtain ⟨inf, d, z, tok⟩ := hg.get hti
      have htd := tok.td
      cases htd' : ti.td with
      | bool =>
        rw [htd'] at hok htd
        have hd : d = .bool := by cases d <;> simp [tdOf] at htd <;> first | rfl | (split at htd <;> simp at htd)
        subst hd
        obtain ⟨b, rfl, _⟩ := DataW.trod_bool tok.hd h
        exact scalar_opn hr hn (.bool b) ⟨ti, hti, by rw [htd']; exact ⟨b, rfl⟩⟩
      | int k =>
        rw [htd'] at hok htd
        have hd : d = .int k := by cases d <;> simp [tdOf] at htd <;> first | (subst htd; rfl) | (split at htd <;> simp at htd)
        subst hd
        obtain ⟨z, rfl, _, hw⟩ := DataW.trod_int tok.hd h
        exact scalar_opn hr hn (.int k z) ⟨ti, hti, by rw [htd']; exact ⟨z, rfl, hw⟩⟩
      | string =>
        rw [htd'] at hok htd
        have hd : d = .string := by cases d <;> simp [tdOf] at htd <;> first | rfl | (split at htd <;> simp at htd)
        subst hd
        obtain ⟨s, rfl, _, _⟩ := DataW.trod_string tok.hd h
        exact scalar_opn hr hn (.str s) ⟨ti, hti, by rw [htd']; exact ⟨s, rfl⟩⟩
      | slice e =>
        rw [htd'] at hok htd
        have hd : d = .slice e := by cases d <;> simp [tdOf] at htd <;> first | (subst htd; rfl) | (split at htd <;> simp at htd)
        subst hd
        simp only [Bool.and_eq_true] at hok
        obtain ⟨⟨hsz, hte⟩, hoe⟩ := hok
        cases he : ap.ty e with
        | none => rw [he] at hte; cases hte
        | some te =>
        rw [he] at hte
        have hz : 0 < te.sz := by simpa using hte
        obtain ⟨infe, de, ze, tek⟩ := hg.get he
        have hcell : P.cellsOf e = te.sz := by
          unfold Program.cellsOf
          rw [tek.hi, tek.sz]
          rfl
        rcases DataW.trod_slice tok.hd h with ⟨rfl, _⟩ | ⟨a, len, cap, elems, rest, n', hn', rfl, _, hb, hl, _, hlen, hel, hsp, _⟩
        · exact scalar_opn hr hn (.sliceN _ _) ⟨ti, hti, by rw [htd']; exact .inl rfl⟩
        · cases hn'
          obtain ⟨hrl, hrest⟩ := hsp rfl
          rw [hcell] at hel hrest
          -- every element's cells
          have hcs : ∀ i, i < len → ∃ cs' x', w.cells? base (a.add (i * te.sz)) te.sz = some cs' ∧ DataW.trod enc P w base (fun _ => true) true n e cs' = some x' := fun i hi => by
            have h1 := hel i hi
            have h2 : elems[i]? = some elems[i] := List.getElem?_eq_getElem (by omega)
            rw [h2] at h1
            obtain ⟨cs', h3, h4⟩ := Option.bind_eq_some_iff.1 h1
            exact ⟨cs', _, h3, h4⟩
          have hcap : ∀ i, i < cap → ∃ cs', w.cells? base (a.add (i * te.sz)) te.sz = some cs' := fun i hi => by
            by_cases hil : i < len
            · obtain ⟨cs', x', h1, _⟩ := hcs i hil
              exact ⟨cs', h1⟩
            · have h1 := hrest (i - len) (by omega)
              rw [show len + (i - len) = i by omega] at h1
              have h2 : rest[i - len]? = some rest[i - len] := List.getElem?_eq_getElem (by omega)
              rw [h2] at h1
              obtain ⟨cs', h3, h4⟩ := Option.bind_eq_some_iff.1 h1
              exact ⟨cs', h3⟩
          -- where it lies
          have hplace : ∃ (b0 : Nat) (c : Array Value) (et : TypeId) (fr : Nat × Nat), w.heap[b0]? = some (.cells c et fr) ∧ ((b0 = a.block ∧ a.spot = none ∧ a.off + cap * te.sz ≤ c.size) ∨ cap = 0) := by
            by_cases hc0 : cap = 0
            · obtain ⟨b0, c, et, fr, hb0⟩ := hblk ⟨a, len, cap, by simp⟩
              exact ⟨b0, c, et, fr, hb0, .inr hc0⟩
            · have hs : a.spot = none := by
                obtain ⟨cs', h1⟩ := hcap 0 (by omega)
                obtain ⟨l1, l2⟩ := cells_len h1
                have h3 := l2 0 hz
                have h4 : cs'[0]? = some cs'[0] := List.getElem?_eq_getElem (by omega)
                rw [h4, Nat.zero_mul, show (a.add 0).add 0 = a by simp [Addr.add]] at h3
                exact (cell_blk h3).1
              obtain ⟨cs', h1⟩ := hcap (cap - 1) (by omega)
              obtain ⟨l1, l2⟩ := cells_len h1
              have h3 := l2 (te.sz - 1) (by omega)
              have h4 : cs'[te.sz - 1]? = some cs'[te.sz - 1] := List.getElem?_eq_getElem (by omega)
              rw [h4] at h3
              obtain ⟨s1, c, et, fr, s2, s3⟩ := cell_blk h3
              rw [add_off a hs, add_off _ rfl] at s2 s3
              refine ⟨a.block, c, et, fr, s2, .inl ⟨rfl, hs, ?_⟩⟩
              have := (Array.getElem?_eq_some_iff.1 s3).1
              simp only at this
              have e1 : (cap - 1) * te.sz + te.sz = cap * te.sz := by
                rw [← Nat.succ_mul]
                congr 1
                omega
              omega
          obtain ⟨b0, c, et, fr, hb0, hpl⟩ := hplace
          have hB : HasBlk w := ⟨b0, c, et, fr, hb0⟩
          -- the elements
          have hex : ∃ css : List (List Value), css.length = len ∧ ∀ i, i < len → ∃ cs' x', css[i]? = some cs' ∧ w.cells? base (a.add (i * te.sz)) te.sz = some cs' ∧ DataW.trod enc P w base (fun _ => true) true n e cs' = some x' := by
            refine ⟨(List.range len).map fun i => (w.cells? base (a.add (i * te.sz)) te.sz).getD [], by simp, fun i hi => ?_⟩
            obtain ⟨cs', x', h1, h2⟩ := hcs i hi
            exact ⟨cs', x', by simp [hi, h1], h1, h2⟩
          obtain ⟨css, hcl, hce⟩ := hex
          obtain ⟨φ', X, ass, r', n', l', al, av, aa⟩ := opn_list (ap := ap) (n := m) css (List.replicate len e) (by simp [hcl]) (fun i t cs h1 h2 => by
            have hi : i < len := by
              have := (List.getElem?_eq_some_iff.1 h2).1
              omega
            obtain ⟨cs', x', g1, g2, g3⟩ := hce i hi
            rw [g1] at h2
            cases h2
            simp [hi] at h1
            subst h1
            exact opn hg n e _ x' g3 m hoe (fun _ => hB)) φ H hr hn
          have hlenE : ∀ x ∈ ass, x.length = te.sz := fun x hx => by
            obtain ⟨i, hi⟩ := List.getElem?_of_mem hx
            have hil : i < len := by
              have := (List.getElem?_eq_some_iff.1 hi).1
              omega
            obtain ⟨cs', x', g1, g2, g3⟩ := hce i hil
            rw [(av i x cs' hi g1).1]
            exact (cells_len g2).1
          have hfl := flatten_len ass hlenE
          rw [al, hcl] at hfl
          -- its block
          have hlr : cap ≠ 0 → LR φ' ass.flatten c a.off := fun hc0 i v hv => by
            obtain ⟨q1, q2, q3⟩ := hpl.resolve_right hc0
            have hi : i < len * te.sz := by
              have := (List.getElem?_eq_some_iff.1 hv).1
              omega
            have hdiv : i / te.sz < len := (Nat.div_lt_iff_lt_mul hz).2 hi
            have hmod := Nat.mod_lt i hz
            have hidx : i / te.sz * te.sz + i % te.sz = i := by rw [Nat.mul_comm]; exact Nat.div_add_mod i te.sz
            rw [← hidx, flatten_get hz ass hlenE _ _ hmod] at hv
            obtain ⟨x, e1, e2⟩ := Option.bind_eq_some_iff.1 hv
            obtain ⟨cs', x', g1, g2, g3⟩ := hce _ hdiv
            obtain ⟨v1, v2⟩ := av _ x cs' e1 g1
            obtain ⟨l1, l2⟩ := cells_len g2
            have hcj : cs'[i % te.sz]? = some cs'[i % te.sz] := List.getElem?_eq_getElem (by omega)
            have h3 := l2 _ hmod
            rw [hcj] at h3
            obtain ⟨s1, c', et', fr', s2, s3⟩ := cell_blk h3
            rw [add_off a q2, add_off _ rfl] at s2 s3
            simp only at s2 s3
            rw [← q1, hb0] at s2
            cases s2
            refine ⟨_, ?_, v2 _ v _ e2 hcj⟩
            rw [← s3]
            congr 1
            omega
          have hnil : cap = 0 → ass.flatten = [] := fun hc0 => by
            have : len = 0 := by omega
            rw [this, Nat.zero_mul] at hfl
            exact List.eq_nil_of_length_eq_zero hfl
          have hd : a.off + len * te.sz ≤ a.off + cap * te.sz := by
            have := Nat.mul_le_mul_right te.sz hl
            omega
          obtain ⟨p, hp1, hpb, hva⟩ : ∃ p : PL, p.blk = b0 ∧ BR (upd φ' (H ++ X).length p) p (.cells ass.flatten .ro) (.cells c et fr) ∧ VR (upd φ' (H ++ X).length p) (.slice (some ((H ++ X).length, 0)) len (some cap) te.sz) (.slice (some a) len cap) := by
            by_cases hc0 : cap = 0
            · refine ⟨⟨b0, 0, c.size⟩, rfl, .cells _ _ c et fr rfl (by rw [hnil hc0]; simp) (fun i v hv => by rw [hnil hc0] at hv; simp at hv) (fun q => by cases q), ?_⟩
              refine .slice _ _ _ _ _ _ _ _ (upd_self _ _ _) (.inr hc0) hl (by subst hc0; simp) (.inl ⟨_, rfl, rfl⟩)
            · obtain ⟨q1, q2, q3⟩ := hpl.resolve_right hc0
              refine ⟨⟨b0, a.off, c.size⟩, rfl, .cells _ _ c et fr rfl (by show a.off + ass.flatten.length ≤ c.size; omega) ((hlr hc0).mono (r'.upd_le _)) (fun q => by cases q), ?_⟩
              refine .slice _ _ _ _ _ _ _ _ (upd_self _ _ _) (.inl ?_) hl (by show a.off + 0 + cap * te.sz ≤ c.size; omega) (.inl ⟨_, rfl, rfl⟩)
              obtain ⟨ab, ao, as_⟩ := a
              simp only at q1 q2
              subst q1 q2
              rfl
          subst hp1
          have hro := r'.ro n' hb0 hpb
          rw [List.append_assoc] at hro
          refine ⟨_, X ++ [.cells ass.flatten .ro], [.slice (some ((H ++ X).length, 0)) len (some cap) te.sz], hro, by rw [← List.append_assoc]; exact n'.ro _, Inj.le_trans l' (r'.upd_le _), rfl, one_vr hva, ti, hti, ?_⟩
          rw [htd']
          refine .inr ⟨(H ++ X).length, len, cap, ass, te, he, hz, rfl, ?_, by rw [al, hcl], hl, fun x hx => ⟨hlenE x hx, ?_⟩⟩
          · rw [← List.append_assoc]; simp [rowOf]
          · obtain ⟨i, hi⟩ := List.getElem?_of_mem hx
            have hil : i < len := by
              have := (List.getElem?_eq_some_iff.1 hi).1
              omega
            rw [← List.append_assoc]
            exact (aa i x e hi (by simp [hil])).keep (.app _ _)
      | struct fs =>
        rw [htd'] at hok htd
        simp only [Bool.and_eq_true, beq_iff_eq, List.all_eq_true] at hok
        obtain ⟨hoff, hall⟩ := hok
        have hd : ∃ fs', d = .struct fs' ∧ fs = fs'.toList.map fun f => (f.offset, f.type) := by
          cases d <;> simp only [tdOf] at htd <;> try (cases htd; done)
          rename_i fs'
          split at htd
          · cases htd; exact ⟨fs', rfl, rfl⟩
          · cases htd
        obtain ⟨fs', rfl, hfs⟩ := hd
        obtain ⟨xs, n', hn', _, hcl, hxl, hxe⟩ := DataW.trod_struct tok.hd h
        cases hn'
        have hsz : P.cellsOf t = ti.sz := by
          unfold Program.cellsOf
          rw [tok.hi, tok.sz]
          rfl
        rw [hsz] at hcl
        obtain ⟨_, hpart⟩ := off_parts fs 0 ti.sz cs hoff (by omega)
        rw [List.drop_zero, Nat.sub_zero, List.take_of_length_le (by omega)] at hpart
        have hsf : ∀ f ∈ fs, ∃ tf, ap.ty f.2 = some tf ∧ P.cellsOf f.2 = tf.sz := fun f hf => by
          have := hall f hf
          cases m with
          | zero => cases this
          | succ m =>
            unfold okT at this
            cases hf2 : ap.ty f.2 with
            | none => rw [hf2] at this; cases this
            | some tf =>
              obtain ⟨i2, d2, z2, k2⟩ := hg.get hf2
              refine ⟨tf, rfl, ?_⟩
              unfold Program.cellsOf
              rw [k2.hi, k2.sz]
              rfl
        obtain ⟨φ', X, ass, r', n', l', al, av, aa⟩ := opn_list (ap := ap) (n := m) (fs.map fun f => (cs.drop f.1).take (szOf ap f.2)) (fs.map (·.2)) (by simp) (fun i t' cs' h1 h2 => by
          rw [List.getElem?_map] at h1 h2
          cases hfi : fs[i]? with
          | none => rw [hfi] at h1; cases h1
          | some f =>
            rw [hfi] at h1 h2
            cases h1; cases h2
            obtain ⟨tf, k1, k2⟩ := hsf f (List.mem_of_getElem? hfi)
            have hfi' : ∃ f', fs'[i]? = some f' ∧ f = (f'.offset, f'.type) := by
              rw [hfs, List.getElem?_map] at hfi
              cases hq : fs'.toList[i]? with
              | none => rw [hq] at hfi; cases hfi
              | some f' =>
                rw [hq] at hfi
                cases hfi
                exact ⟨f', by simpa using hq, rfl⟩
            obtain ⟨f', q1, rfl⟩ := hfi'
            have q2 := hxe i f' q1
            have q3 : xs[i]? = some (xs[i]'(by have := (Array.getElem?_eq_some_iff.1 q1).1; omega)) := List.getElem?_eq_getElem _
            rw [q3] at q2
            have hs : szOf ap f'.type = P.cellsOf f'.type := by
              simp only at k1 k2
              rw [k2]
              simp [szOf, k1]
            simp only
            rw [hs]
            refine opn hg n f'.type _ _ q2 m (hall _ (List.mem_of_getElem? hfi)) (fun ⟨a, len, cap, hm⟩ => hblk ⟨a, len, cap, List.mem_of_mem_drop (List.mem_of_mem_take hm)⟩)) φ H hr hn
        obtain ⟨fl, fv⟩ := flat_rel ass _ al av
        rw [hpart] at fl fv
        refine ⟨φ', X, ass.flatten, r', n', l', fl, fv, ti, hti, ?_⟩
        rw [htd']
        refine ⟨ass, rfl, by rw [al]; simp, fun i f p h1 h2 => ?_⟩
        obtain ⟨tf, k1, k2⟩ := hsf f (List.mem_of_getElem? h1)
        obtain ⟨v1, _⟩ := av i p ((cs.drop f.1).take (szOf ap f.2)) h2 (by rw [List.getElem?_map, h1]; rfl)
        refine ⟨tf, k1, ?_, aa i p f.2 h2 (by rw [List.getElem?_map, h1]; rfl)⟩
        rw [v1]
        -- the piece is as long as its type
        have hoo : ∀ (gs : List (Nat × Nat)) (o e : Nat), offOk ap o gs = some e → ∀ g ∈ gs, g.1 + szOf ap g.2 ≤ e := by
          intro gs
          induction gs with
          | nil => intro o e _ g hg; cases hg
          | cons a r IH =>
            intro o e hoe g hgm
            simp only [offOk] at hoe
            split at hoe
            · rename_i hao
              obtain ⟨ta, h1, h2⟩ := Option.bind_eq_some_iff.1 hoe
              rcases List.mem_cons.1 hgm with rfl | hgm
              · have := (off_parts (ap := ap) r (o + ta.sz) e (List.replicate e (.bool true)) h2 (by simp)).1
                simp only [szOf, h1, Option.map_some, Option.getD_some]
                omega
              · exact IH _ _ h2 g hgm
            · cases hoe
        have := hoo fs 0 ti.sz hoff f (List.mem_of_getElem? h1)
        have hsf2 : szOf ap f.2 = tf.sz := by simp [szOf, k1]
        simp only [List.length_take, List.length_drop]
        omega
      | _ => rw [htd'] at hok; cases hok
end
end Go.Ab
