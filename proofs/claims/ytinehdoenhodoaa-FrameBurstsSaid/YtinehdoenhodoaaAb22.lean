import Derived.Test.YtinehdoenhodoaaAb21
/-! Loops over functions. -/
set_option linter.unusedVariables false
set_option linter.unusedSimpArgs false
namespace Go.Ab
def isLoop : Option AB → Prop
  | some (.loop ..) => True
  | _ => False
/-- Only the block of the loop is turned. -/
def LS (l : Nat) (H H' : AH) : Prop := Chg [l] H H' ∧ isLoop H[l]?
theorem LS.get {l : Nat} {H H' : AH} (c : LS l H H') {b : Nat} {cs : List AV} {m : Md} (h : H[b]? = some (.cells cs m)) : H'[b]? = some (.cells cs m) :=
  c.1.get h (by
    simp only [List.mem_singleton]
    intro e
    subst e
    have := c.2
    rw [h] at this
    exact this)
theorem LS.row {l : Nat} {H H' : AH} (c : LS l H H') {b : Nat} {cs : List AV} (h : rowOf H b = some cs) : rowOf H' b = some cs := by
  refine c.1.row h ?_
  simp only [List.mem_singleton]
  intro e
  subst e
  unfold rowOf at h
  have := c.2
  revert this h
  cases H[b]? with
  | none => intro h; cases h
  | some A => cases A <;> simp [isLoop]
theorem LS.sl {l : Nat} {H H' : AH} (c : LS l H H') {sz : Nat} {v : AV} {cs : List AV} (h : SL H sz v cs) : SL H' sz v cs := by
  cases h with
  | nil c s => exact .nil c s
  | at_ b o n k r cs hz h1 h2 h3 h4 => exact .at_ b o n k r cs hz (c.row h1) h2 h3 h4
theorem LS.mine {l : Nat} {H H' : AH} (c : LS l H H') {sz : Nat} {v : AV} {cs : List AV} (h : Mine H sz v cs) : Mine H' sz v cs := by
  cases h with
  | nil c s => exact .nil c s
  | row b n k r cs hz h1 h2 h3 h4 => exact .row b n k r cs hz (c.get h1) h2 h3 h4
theorem LS.chg {l : Nat} {H0 H H' : AH} {F : List Nat} (c : LS l H H') (h : Chg F H0 H) (hl : H0.length ≤ l) : Chg F H0 H' := h.trans c.1 (by simp [hl])

/-- What a function that is gone through does: it hands over n rows of arguments, one behind the other, till it is told to stop. -/
def Goes (ap : AP) (k n : Nat) (g : AV) (A : Nat → AH → List AV → Prop) (Inv : AH → Prop) (H0 : AH) (l : Nat) : Prop :=
  ∀ (J : Nat → AH → Prop) (D : AH → Prop), (∀ j H H', J j H → Chg [] H H' → J j H') → (∀ H H', D H → Chg [] H H' → D H') → (∀ j H, J j H → Inv H) →
    (∀ j, j < n → ∀ H a, J j H → A j H a → Hx (callA ap k (.yield l) a 0 H) fun r => (r.1 = .bool true ∧ J (j + 1) r.2) ∨ (r.1 = .bool false ∧ D r.2)) →
    J 0 H0 → Hx (callA ap (k + 1) g [.yield l] 0 H0) fun r => J n r.2 ∨ D r.2

def stepOut (I : AH → Prop) (E : Ex → AH → Prop) (l d : Nat) (H : AH) (q : Ex × St) : Prop :=
  q.2.H[l]? = H[l]? ∧ q.2.H[d]? = H[d]? ∧ match q.1 with | .normal => I q.2.H | x => E x q.2.H
@[simp] theorem stepOut_normal {I : AH → Prop} {E : Ex → AH → Prop} {l d : Nat} {H : AH} {s : St} : stepOut I E l d H (.normal, s) = (s.H[l]? = H[l]? ∧ s.H[d]? = H[d]? ∧ I s.H) := propext ⟨fun h => h, fun h => h⟩
@[simp] theorem stepOut_exit {I : AH → Prop} {E : Ex → AH → Prop} {l d i : Nat} {H : AH} {s : St} : stepOut I E l d H (.exit i, s) = (s.H[l]? = H[l]? ∧ s.H[d]? = H[d]? ∧ E (.exit i) s.H) := propext ⟨fun h => h, fun h => h⟩
@[simp] theorem stepOut_ret {I : AH → Prop} {E : Ex → AH → Prop} {l d : Nat} {H : AH} {s : St} : stepOut I E l d H (.ret, s) = (s.H[l]? = H[l]? ∧ s.H[d]? = H[d]? ∧ E .ret s.H) := propext ⟨fun h => h, fun h => h⟩
@[congr] theorem stepOut_congr {I : AH → Prop} {E : Ex → AH → Prop} {l d : Nat} {H : AH} {q q' : Ex × St} (h : tag q = q') : stepOut I E l d H q = stepOut I E l d H q' := by cases h; rfl
/-- The assignment of what is handed over, then the round. -/
def asK (P : List AV → Prop) (H : AH) (r : Ex × St) : Prop := r.1 = .normal ∧ r.2.H = H ∧ P r.2.env
@[simp] theorem asK_normal {P : List AV → Prop} {H H' : AH} {env : List AV} {ms : List Nat} : asK P H (.normal, ⟨env, H', ms⟩) = (H' = H ∧ P env) := propext ⟨fun h => h.2, fun h => ⟨rfl, h⟩⟩
@[congr] theorem asK_congr {P : List AV → Prop} {H : AH} {q q' : Ex × St} (h : tag q = q') : asK P H q = asK P H q' := by cases h; rfl

theorem jumpEx_of : ∀ {x : Ex} {c : Code}, jumpOf x = some c → jumpEx c = some x
  | .ret, c, h => by cases h; rfl
  | .exit i, c, h => by cases h; rfl
  | .normal, c, h => by cases h

theorem jumpOf_some {x : Ex} (h : x ≠ .normal) : ∃ c, jumpOf x = some c := by cases x <;> first | exact absurd rfl h | exact ⟨_, rfl⟩
theorem hx_range {ap : AP} {k k' n : Nat} {s : St} {g : Operand} {ps : Array Tmp} {as bd : AC} {Q : Ex × St → Prop} (A : Nat → AH → List AV → Prop) (Inv : AH → Prop) (I : Nat → AH → Prop) (E : Ex → AH → Prop)
    (hf : isFunc (opd s.env g) = true)
    (hg : Goes ap (k + 1) n (opd s.env g) A Inv (s.H ++ [.deferred false] ++ [.loop .ready none s.env ps as bd s.H.length]) (s.H.length + 1))
    (hI : ∀ j H H', I j H → Chg [] H H' ∨ LS (s.H.length + 1) H H' → I j H') (hE : ∀ x H H', E x H → Chg [] H H' ∨ LS (s.H.length + 1) H H' → E x H')
    (hInv : ∀ j H, I j H → Inv H)
    (hA : ∀ j H H' a, A j H a → LS (s.H.length + 1) H H' → A j H' a) (hn : ∀ j H a, A j H a → a.length = ps.size)
    (h0 : I 0 s.H)
    (hb : ∀ j, j < n → ∀ H a, I j H → A j H a → ∀ H1, I j H1 → A j H1 a → isLoop H1[s.H.length + 1]? → isLoop H[s.H.length + 1]? → H1[s.H.length]? = some (.deferred false) →
      Hx (evCode ap (callA ap k) 0 (some (s.H.length + 1)) k as ⟨setL s.env (ps.toList.zip a), H, []⟩) (asK (fun env => ∀ ms, Hx (evCode ap (callA ap k) 0 (some (s.H.length + 1)) k bd ⟨env, H1, ms⟩) (stepOut (I (j + 1)) E (s.H.length + 1) s.H.length H1)) H))
    (hq : ∀ H, I n H → H[s.H.length]? = some (.deferred false) → Q (.normal, ⟨s.env, H, s.H.length :: s.marks⟩))
    (hqe : ∀ x H, x ≠ .normal → E x H → H[s.H.length]? = some (.deferred false) → Q (x, ⟨s.env, H, s.H.length :: s.marks⟩)) :
    Hx (evCode ap (callA ap (k + 2)) 0 none k' (.range g ps as bd) s) Q := by
  have hl0 : (s.H ++ [AB.deferred false] ++ [.loop .ready none s.env ps as bd s.H.length])[s.H.length + 1]? = some (.loop .ready none s.env ps as bd s.H.length) := by simp
  have hd0 : (s.H ++ [AB.deferred false] ++ [.loop .ready none s.env ps as bd s.H.length])[s.H.length]? = some (.deferred false) := by simp
  have key := hg (fun j H => I j H ∧ H[s.H.length + 1]? = some (.loop .ready none s.env ps as bd s.H.length) ∧ H[s.H.length]? = some (.deferred false))
    (fun H => ∃ x c, jumpOf x = some c ∧ E x H ∧ H[s.H.length + 1]? = some (.loop .done (some c) s.env ps as bd s.H.length) ∧ H[s.H.length]? = some (.deferred false))
    (fun j H H' ⟨h1, h2, h3⟩ c => ⟨hI j H H' h1 (.inl c), c.get h2 (by simp), c.get h3 (by simp)⟩)
    (fun H H' ⟨x, c', h1, h2, h3, h4⟩ c => ⟨x, c', h1, hE x H H' h2 (.inl c), c.get h3 (by simp), c.get h4 (by simp)⟩) (fun j H ⟨h, _⟩ => hInv j H h)
    (fun j hj H a ⟨h1, h2, h3⟩ ha => by
      have hlt := lt_of_get h2
      obtain ⟨H1, hH1⟩ : ∃ H1, H1 = H.set (s.H.length + 1) (.loop .busy none s.env ps as bd s.H.length) := ⟨_, rfl⟩
      have hls : LS (s.H.length + 1) H H1 := ⟨by rw [hH1]; exact Chg.set _ _ _, by rw [h2]; trivial⟩
      have g2 : H1[s.H.length + 1]? = some (.loop .busy none s.env ps as bd s.H.length) := by rw [hH1, List.getElem?_set_self hlt]
      have g3 : H1[s.H.length]? = some (.deferred false) := by rw [hH1, List.getElem?_set_ne (by omega)]; exact h3
      have hbb := hb j hj H a h1 ha H1 (hI j H H1 h1 (.inr hls)) (hA j H H1 a ha hls) (by rw [g2]; trivial) (by rw [h2]; trivial) g3
      obtain ⟨r, e1, e2, e3, e4⟩ := hbb.ex
      obtain ⟨q, f1, f2, f3, f4⟩ := (e4 r.2.marks).ex
      simp only [callA]
      unfold roundA
      rw [h2]
      simp only
      rw [if_neg (by simp [hn j H a ha]), e1]
      simp only [Option.bind_some]
      rw [e2, e3, h2]
      simp only
      rw [← hH1, f1]
      simp only [Option.bind_some]
      rw [f2, g2]
      simp only
      have hlt2 := lt_of_get (f2.trans g2)
      refine Hx.som ?_
      obtain ⟨x, sq⟩ := q
      have hls2 : ∀ st pe, LS (s.H.length + 1) sq.H (sq.H.set (s.H.length + 1) (.loop st pe s.env ps as bd s.H.length)) := fun st pe => ⟨Chg.set _ _ _, by rw [f2, g2]; trivial⟩
      have gd : ∀ A, (sq.H.set (s.H.length + 1) A)[s.H.length]? = some (.deferred false) := fun A => by rw [List.getElem?_set_ne (by omega)]; exact f3.trans g3
      cases hx : jumpOf x with
      | none =>
        cases x with
        | normal => exact .inl ⟨by simp, hI _ _ _ f4 (.inr (hls2 _ _)), List.getElem?_set_self hlt2, gd _⟩
        | exit i => cases hx
        | ret => cases hx
      | some c =>
        have f4' : E x sq.H := by
          cases x with
          | normal => cases hx
          | exit i => exact f4
          | ret => exact f4
        exact .inr ⟨by simp, x, c, hx, hE _ _ _ f4' (.inr (hls2 _ _)), List.getElem?_set_self hlt2, gd _⟩)
    ⟨hI _ _ _ h0 (.inl ((Chg.app _ _).tr (.app _ _))), hl0, hd0⟩
  obtain ⟨r, e, hr⟩ := key.ex
  simp only [evCode, hf]
  simp only [enterA, Option.bind_some, Bool.true_eq_false, if_false]
  have e' : callA ap (k + 2) (opd s.env g) [.yield (s.H ++ [AB.deferred false]).length] 0 (s.H ++ [AB.deferred false] ++ [.loop .ready none s.env ps as bd s.H.length]) = some r := by
    rw [List.length_append]
    exact e
  rw [e']
  simp only [Option.bind_some, List.length_append, List.length_cons, List.length_nil, Nat.zero_add]
  unfold leaveA
  rcases hr with ⟨h1, h2, h3⟩ | ⟨x, c, h1, h2, h3, h4⟩
  · rw [h2]
    simp only
    rw [if_neg (by simp)]
    refine Hx.som (hq _ (hI _ _ _ h1 (.inr ⟨Chg.set _ _ _, by rw [h2]; trivial⟩)) ?_)
    rw [List.getElem?_set_ne (by omega)]; exact h3
  · rw [h3]
    simp only
    rw [if_neg (by simp), jumpEx_of h1]
    have hx : x ≠ .normal := fun e => by subst e; cases h1
    refine Hx.som (hqe x _ hx (hE _ _ _ h2 (.inr ⟨Chg.set _ _ _, by rw [h3]; trivial⟩)) ?_)
    rw [List.getElem?_set_ne (by omega)]; exact h4
end Go.Ab
