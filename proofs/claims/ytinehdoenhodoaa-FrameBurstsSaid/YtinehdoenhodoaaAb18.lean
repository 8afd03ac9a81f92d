import Derived.Test.YtinehdoenhodoaaAb17
import Derived.Below
/-! From the abstract reading to the model's calls: arguments that are read. -/
set_option linter.unusedVariables false
set_option linter.unusedSimpArgs false
namespace Go.Ab
open Go.RowKit
theorem Rel.empty (hp : Array Obj) : Rel (fun _ => none) [] hp := ⟨fun _ _ h => (by cases h), fun _ _ _ _ _ _ h => (by cases h)⟩
def NoOwn (H : AH) : Prop := ∀ A ∈ H, A.own = false
theorem noOwn_nil : NoOwn [] := fun _ h => by cases h
theorem NoOwn.ro {H : AH} (h : NoOwn H) (l : List AV) : NoOwn (H ++ [.cells l .ro]) := fun A hA => by
  rcases List.mem_append.1 hA with hA | hA
  · exact h A hA
  · simp at hA; subst hA; rfl
/-- A block more that is only read. -/
theorem Rel.ro {φ : Inj} {H : AH} {hp : Array Obj} (h : Rel φ H hp) (hn : NoOwn H) {p : PL} {l : List AV} {O : Obj} (ho : hp[p.blk]? = some O) (hb : BR (upd φ H.length p) p (.cells l .ro) O) : Rel (upd φ H.length p) (H ++ [.cells l .ro]) hp where
  blk := fun b q e => by
    unfold upd at e
    split at e
    · rename_i hb'; subst hb'; cases e
      exact ⟨_, O, by simp, ho, hb⟩
    · obtain ⟨A, O', h1, h2, h3⟩ := h.blk b q e
      exact ⟨A, O', by rw [List.getElem?_append_left (h.lt e)]; exact h1, h2, h3.mono (h.upd_le _)⟩
  excl := fun b q A b' q' A' e1 e2 e3 => by
    have := (hn.ro l) A (List.mem_of_getElem? e2)
    rw [this] at e3; cases e3
theorem below_of {φ φ' : Inj} {H H' : AH} {w w' : World} (hn : NoOwn H) (h : SimW φ H w φ' H' w') : Below w.heap.size w w' :=
  ⟨h.str.1, h.str.2.1, h.str.2.2, h.size, fun k hk => h.frame k hk fun b p A _ e2 e3 => by
    have := hn A (List.mem_of_getElem? e2)
    rw [this] at e3; cases e3⟩
/-- A call, as it was reckoned. -/
theorem calls_ab {P : Program} {ap : AP} (hg : Agree P ap) {k n lo : Nat} {φ : Inj} {H H' : AH} {w : World} {args : List AV} {args' : Array Value} {v : AV} (hp : ap.prim n = none) (h : callA ap k (.func n [] []) args lo H = some (v, H')) (hr : Rel φ H w.heap) (hn : NoOwn H) (he : ER φ args args') :
    Calls P n args' w fun e w' => (∃ v' φ', e = .returned v' ∧ VR φ' v v') ∧ Below w.heap.size w w' := by
  cases k with
  | zero => simp only [callA] at h; cases h
  | succ k =>
    simp only [callA, hp, List.nil_append, List.append_nil] at h
    refine ((callsIn_wide (n := 0)).1 ((sound_fn hg (sound_call hg k) h hr he).2 0)).mono ?_
    rintro e w' ⟨v', φ', h1, h2, h3⟩
    exact ⟨⟨v', φ', h1, h3⟩, below_of hn h2⟩
theorem calls_true {P : Program} {ap : AP} (hg : Agree P ap) {k n lo : Nat} {φ : Inj} {H H' : AH} {w : World} {args : List AV} {args' : Array Value} (hp : ap.prim n = none) (h : callA ap k (.func n [] []) args lo H = some (.bool true, H')) (hr : Rel φ H w.heap) (hn : NoOwn H) (he : ER φ args args') :
    Calls P n args' w fun e w' => e = .returned (.bool true) ∧ Below w.heap.size w w' := by
  refine (calls_ab hg hp h hr hn he).mono ?_
  rintro e w' ⟨⟨v', φ', rfl, h1⟩, h2⟩
  cases h1
  exact ⟨rfl, h2⟩

/-! an argument that is a slice of numbers -/
def LiesAt (w : World) (x : Addr) : Prop := x.spot = none ∧ ∃ c e fr, w.heap[x.block]? = some (.cells c e fr)
theorem liesAt_of {P : Program} {W : World} {r : Reach} {base : Nat} {t e : TypeId} {x : Addr} {len cap : Nat} (hu : P.underlying t = some (.slice e)) (h : Value.okWide P W r base t (.slice (some x) len cap)) : LiesAt W x := by
  simp only [Value.okWide, hu, Cell.okWide, Cell.ok, World.has] at h
  obtain ⟨_, _, _, h1, row, cells, h2, _⟩ := h
  refine ⟨h1, ?_⟩
  unfold World.shape? at h2
  split at h2
  · rename_i c e fr h3; exact ⟨c, e, fr, h3⟩
  · cases h2
def nums (k : IntKind) (zs : List Int) : List AV := zs.map (AV.int k)
/-- A row of numbers, at an address. -/
theorem rel_nums {φ : Inj} {H : AH} {w : World} (h : Rel φ H w.heap) (hn : NoOwn H) {k : IntKind} {x : Addr} {zs : List Int} (hx : LiesAt w x) (hc : ∀ i, i < zs.length → w.cell? (x.add i) = some (.int k (zs.getD i 0))) {len : Nat} (hl : len ≤ zs.length) :
    ∃ p : PL, Rel (upd φ H.length p) (H ++ [.cells (nums k zs) .ro]) w.heap ∧ φ.le (upd φ H.length p) ∧ VR (upd φ H.length p) (.slice (some (H.length, 0)) len (some zs.length) 1) (.slice (some x) len zs.length) := by
  obtain ⟨hs, c, e, fr, ho⟩ := hx
  obtain ⟨xb, xo, xs⟩ := x
  simp only at hs ho
  subst hs
  have cell : ∀ i, i < zs.length → c[xo + i]? = some (.int k (zs.getD i 0)) := fun i hi => by
    have := hc i hi
    rw [← this]
    unfold Addr.add
    split
    · rename_i h0; subst h0; simp [World.cell?, ho]
    · simp [World.cell?, ho]
  by_cases h0 : zs = []
  · subst h0
    refine ⟨⟨xb, 0, c.size⟩, h.ro hn ho (.cells _ _ c e fr rfl (by simp [nums]) (fun i a hi => by simp [nums] at hi) (fun q => by cases q)), h.upd_le _, ?_⟩
    exact .slice _ _ _ _ _ _ _ _ (upd_self _ _ _) (.inr rfl) hl (by simp) (.inl ⟨_, rfl, rfl⟩)
  · have hpos : 0 < zs.length := List.length_pos_iff.2 h0
    have hlast := cell (zs.length - 1) (by omega)
    have hsz : xo + zs.length ≤ c.size := by
      have := (Array.getElem?_eq_some_iff.1 hlast).1
      omega
    refine ⟨⟨xb, xo, c.size⟩, h.ro hn ho (.cells _ _ c e fr rfl (by simp [nums]; omega) (fun i a hi => ?_) (fun q => by cases q)), h.upd_le _, ?_⟩
    · have hi' : i < zs.length := by
        have := (List.getElem?_eq_some_iff.1 hi).1
        simpa [nums] using this
      refine ⟨_, cell i hi', ?_⟩
      simp only [nums, List.getElem?_map] at hi
      rw [List.getElem?_eq_getElem hi'] at hi
      simp only [Option.map_some, Option.some.injEq] at hi
      subst hi
      simp [hi']
      exact .int _ _
    · refine .slice _ _ _ _ _ _ _ _ (upd_self _ _ _) (.inl ?_) hl (by show xo + 0 + zs.length * 1 ≤ c.size; omega) (.inl ⟨_, rfl, rfl⟩)
      simp
theorem bs_nums {H X : AH} {zs : List Int} {len : Nat} (hl : len ≤ zs.length) {c : Option Nat} : BS (H ++ [.cells (nums .u8 zs) .ro] ++ X) (.slice (some (H.length, 0)) len c 1) (zs.take len) := by
  refine .at_ _ _ _ _ (nums .u8 zs) _ ?_ (by simp [nums, hl]) (by simp [nums, u8s, List.map_take]) (by simp [hl])
  simp [rowOf]
theorem er_one_ {φ : Inj} {a : AV} {v : Value} (h : VR φ a v) : ER φ [a] #[v] := ⟨rfl, fun i x y h1 h2 => by
  cases i with
  | zero => simp at h1 h2; subst h1; subst h2; exact h
  | succ i => simp at h1⟩
theorem er_cons {φ : Inj} {a : AV} {v : Value} {l : List AV} {c : Array Value} (h : VR φ a v) (hl : ER φ l c) : ER φ (a :: l) (#[v] ++ c) := er_append (er_one_ h) hl
end Go.Ab
