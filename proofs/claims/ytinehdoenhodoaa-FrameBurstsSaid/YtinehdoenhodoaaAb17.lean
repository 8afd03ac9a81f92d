import Derived.Test.YtinehdoenhodoaaAb12
/-! Carrying the code out: what comes of it, by simp. -/
set_option linter.unusedVariables false
set_option linter.unusedSimpArgs false
namespace Go.Ab
/-- A mark on what simp works at: its rule is no computation, so that simp never falls back to looking at all that comes behind. -/
def tag {α : Type} (a : α) : α := a
@[simp] theorem tag_eq {α : Type} (a : α) : tag a = a := (Eq.refl a).trans (Eq.refl a)
/-- It comes to an end, and so. -/
inductive Hx {α : Type} (o : Option α) (Q : α → Prop) : Prop where
  | mk (r : α) (e : o = some r) (h : Q r) : Hx o Q
@[congr] theorem Hx_congr {α : Type} {o o' : Option α} {Q : α → Prop} (h : tag o = o') : Hx o Q = Hx o' Q := by cases h; rfl
theorem Hx_iff {α : Type} {o : Option α} {Q : α → Prop} : Hx o Q ↔ ∃ r, o = some r ∧ Q r := ⟨fun ⟨r, e, h⟩ => ⟨r, e, h⟩, fun ⟨r, e, h⟩ => ⟨r, e, h⟩⟩
@[simp] theorem Hx_some {α : Type} {a : α} {Q : α → Prop} : Hx (some a) Q = Q a := propext ⟨fun h => (by obtain ⟨r, e, h⟩ := h; cases e; exact h), fun h => ⟨a, rfl, h⟩⟩
@[simp] theorem Hx_none {α : Type} {Q : α → Prop} : Hx none Q = False := propext ⟨fun h => (by obtain ⟨r, e, h⟩ := h; cases e), fun h => False.elim h⟩
theorem Hx_bind {α β : Type} {o : Option α} {f : α → Option β} {Q : β → Prop} : Hx (o.bind f) Q = Hx o fun a => Hx (f a) Q := by cases o <;> simp
theorem Hx_map {α β : Type} {o : Option α} {f : α → β} {Q : β → Prop} : Hx (o.map f) Q = Hx o fun a => Q (f a) := by cases o <;> simp
theorem Hx_eq {α : Type} {o : Option α} {x : α} : Hx o (fun r => r = x) ↔ o = some x := by
  cases o with
  | none => simp
  | some r => simp
theorem Hx.mono {α : Type} {o : Option α} {Q Q' : α → Prop} (h : Hx o Q) (hq : ∀ r, Q r → Q' r) : Hx o Q' := by
  obtain ⟨r, e, h⟩ := h
  exact ⟨r, e, hq r h⟩
theorem Hx_ite {α : Type} {c : Prop} [Decidable c] {a b : Option α} {Q : α → Prop} : Hx (if c then a else b) Q = if c then Hx a Q else Hx b Q := by split <;> rfl

/-- The rest behind the first part. -/
def seqK (f : St → Option (Ex × St)) (Q : Ex × St → Prop) (r : Ex × St) : Prop := match r.1 with | .normal => Hx (f r.2) Q | _ => Q r
@[simp] theorem seqK_normal {f : St → Option (Ex × St)} {Q : Ex × St → Prop} {s : St} : seqK f Q (.normal, s) = Hx (f s) Q := propext ⟨fun h => h, fun h => h⟩
@[simp] theorem seqK_exit {f : St → Option (Ex × St)} {Q : Ex × St → Prop} {i : Nat} {s : St} : seqK f Q (.exit i, s) = Q (.exit i, s) := propext ⟨fun h => h, fun h => h⟩
@[simp] theorem seqK_ret {f : St → Option (Ex × St)} {Q : Ex × St → Prop} {s : St} : seqK f Q (.ret, s) = Q (.ret, s) := propext ⟨fun h => h, fun h => h⟩
@[congr] theorem seqK_congr {f : St → Option (Ex × St)} {Q : Ex × St → Prop} {r r' : Ex × St} (h : tag r = r') : seqK f Q r = seqK f Q r' := by cases h; rfl
def blkK (id : Nat) (Q : Ex × St → Prop) (r : Ex × St) : Prop := match r.1 with | .exit i => Q (if i = id then .normal else .exit i, r.2) | _ => Q r
@[simp] theorem blkK_normal {id : Nat} {Q : Ex × St → Prop} {s : St} : blkK id Q (.normal, s) = Q (.normal, s) := propext ⟨fun h => h, fun h => h⟩
@[simp] theorem blkK_exit {id i : Nat} {Q : Ex × St → Prop} {s : St} : blkK id Q (.exit i, s) = Q (if i = id then .normal else .exit i, s) := propext ⟨fun h => h, fun h => h⟩
@[simp] theorem blkK_ret {id : Nat} {Q : Ex × St → Prop} {s : St} : blkK id Q (.ret, s) = Q (.ret, s) := propext ⟨fun h => h, fun h => h⟩
@[congr] theorem blkK_congr {id : Nat} {Q : Ex × St → Prop} {r r' : Ex × St} (h : tag r = r') : blkK id Q r = blkK id Q r' := by cases h; rfl
/-- A branch. -/
def condK (v : AV) (t e : Prop) : Prop := match v with | .bool true => t | .bool false => e | _ => False
@[simp] theorem condK_t {t e : Prop} : condK (.bool true) t e = t := propext ⟨fun h => h, fun h => h⟩
@[simp] theorem condK_f {t e : Prop} : condK (.bool false) t e = e := propext ⟨fun h => h, fun h => h⟩
theorem condK_p {p : Prop} [Decidable p] {t e : Prop} : condK (.bool (decide p)) t e = if p then t else e := by by_cases h : p <;> simp [h, condK]
theorem condK_b {b : Bool} {t e : Prop} : condK (.bool b) t e = if b = true then t else e := by cases b <;> simp [condK]
@[congr] theorem condK_congr {v v' : AV} {t e : Prop} (h : tag v = v') : condK v t e = condK v' t e := by cases h; rfl
/-- Behind a region. -/
def regK (ms : List Nat) (Q : Ex × St → Prop) (r : List AV × AH) : Prop := Q (.normal, ⟨r.1, r.2, ms⟩)
@[simp] theorem regK_mk {ms : List Nat} {Q : Ex × St → Prop} {env : List AV} {H : AH} : regK ms Q (env, H) = Q (.normal, ⟨env, H, ms⟩) := propext ⟨fun h => h, fun h => h⟩
@[congr] theorem regK_congr {ms : List Nat} {Q : Ex × St → Prop} {r r' : List AV × AH} (h : tag r = r') : regK ms Q r = regK ms Q r' := by cases h; rfl
/-- The operations that follow. -/
def opsK (ap : AP) (cf : CallF) (lo : Nat) (l : List AO) (Q : List AV × AH → Prop) (r : List AV × AH) : Prop := Hx (evOps ap cf lo l r.1 r.2) Q
@[simp] theorem opsK_mk {ap : AP} {cf : CallF} {lo : Nat} {l : List AO} {Q : List AV × AH → Prop} {env : List AV} {H : AH} : opsK ap cf lo l Q (env, H) = Hx (evOps ap cf lo l env H) Q := propext ⟨fun h => h, fun h => h⟩
@[congr] theorem opsK_congr {ap : AP} {cf : CallF} {lo : Nat} {l : List AO} {Q : List AV × AH → Prop} {r r' : List AV × AH} (h : tag r = r') : opsK ap cf lo l Q r = opsK ap cf lo l Q r' := by cases h; rfl
/-- One operation. -/
def stepO (ap : AP) (cf : CallF) (lo : Nat) (o : AO) (env : List AV) (H : AH) : Option (List AV × AH) :=
  match wantedA env o.guard o.want with
  | some true => (aoper ap cf lo env H o.op).map fun p => (setD env o.dst p.1, p.2)
  | some false => some (setD env o.dst (.tuple []), H)
  | none => none
section
variable {ap : AP} {cf : CallF} {lo k : Nat} {rd : Option Nat} {s : St} {Q : Ex × St → Prop}
@[simp ↓] theorem hx_skip : Hx (evCode ap cf lo rd k .skip s) Q = Q (.normal, s) := by simp only [evCode, Hx_some]
@[simp ↓] theorem hx_exit {id : Nat} : Hx (evCode ap cf lo rd k (.exit id) s) Q = Q (.exit id, s) := by simp only [evCode, Hx_some]
@[simp ↓] theorem hx_ret : Hx (evCode ap cf lo rd k .ret s) Q = Q (.ret, s) := by simp only [evCode, Hx_some]
@[simp ↓] theorem hx_region {ops : List AO} : Hx (evCode ap cf lo rd k (.region ops) s) Q = Hx (evOps ap cf lo ops s.env s.H) (regK s.marks Q) := by simp only [evCode, Hx_map]; rfl
@[simp ↓] theorem hx_draw {ops : Array Oper} {ord : List Nat} {anc : List (List Nat)} : Hx (evCode ap cf lo rd k (.draw ops ord anc) s) Q = Hx (evDraw ap cf lo ops ord anc s.env s.H) (regK s.marks Q) := by simp only [evCode, Hx_map]; rfl
@[simp ↓] theorem hx_seq {a b : AC} : Hx (evCode ap cf lo rd k (.seq a b) s) Q = Hx (evCode ap cf lo rd k a s) (seqK (evCode ap cf lo rd k b) Q) := by
  simp only [evCode]
  cases evCode ap cf lo rd k a s with
  | none => simp
  | some r => obtain ⟨x, s'⟩ := r; cases x <;> simp [seqK]
@[simp ↓] theorem hx_block {id : Nat} {b : AC} : Hx (evCode ap cf lo rd k (.block id b) s) Q = Hx (evCode ap cf lo rd k b s) (blkK id Q) := by
  simp only [evCode]
  cases evCode ap cf lo rd k b s with
  | none => simp
  | some r =>
    obtain ⟨x, s'⟩ := r
    cases x <;> try (simp [blkK]; done)
    rename_i i
    by_cases h : i = id <;> simp [h, blkK]
@[simp ↓] theorem hx_cond {c : Operand} {t e : AC} : Hx (evCode ap cf lo rd k (.cond c t e) s) Q = condK (opd s.env c) (Hx (evCode ap cf lo rd k t s) Q) (Hx (evCode ap cf lo rd k e s) Q) := by
  simp only [evCode]
  generalize opd s.env c = v
  cases v <;> try (simp [condK]; done)
  rename_i b
  cases b <;> simp [condK]
@[simp ↓] theorem hx_ops_nil {env : List AV} {H : AH} {Q : List AV × AH → Prop} : Hx (evOps ap cf lo [] env H) Q = Q (env, H) := by simp only [evOps, Hx_some]
@[simp ↓] theorem hx_ops {o : AO} {r : List AO} {env : List AV} {H : AH} {Q : List AV × AH → Prop} : Hx (evOps ap cf lo (o :: r) env H) Q = Hx (stepO ap cf lo o env H) (opsK ap cf lo r Q) := by
  simp only [evOps, stepO, Hx_bind]
  cases h : wantedA env o.guard o.want with
  | none => simp
  | some t => cases t <;> simp [Hx_map, Hx_bind] <;> rfl
@[congr] theorem evCode_congr {c : AC} {s' : St} (h : tag s = s') : evCode ap cf lo rd k c s = evCode ap cf lo rd k c s' := by cases h; rfl
end

/-! places of an environment -/
section
variable {a b c d e f g h v : AV} {l : List AV} {n : Nat}
theorem get_nil : get [] n = .undef := rfl
theorem get_0 : get (a :: l) 0 = a := rfl
theorem get_1 : get (a :: b :: l) 1 = b := rfl
theorem get_2 : get (a :: b :: c :: l) 2 = c := rfl
theorem get_3 : get (a :: b :: c :: d :: l) 3 = d := rfl
theorem get_4 : get (a :: b :: c :: d :: e :: l) 4 = e := rfl
theorem get_5 : get (a :: b :: c :: d :: e :: f :: l) 5 = f := rfl
theorem get_6 : get (a :: b :: c :: d :: e :: f :: g :: l) 6 = g := rfl
theorem get_7 : get (a :: b :: c :: d :: e :: f :: g :: h :: l) 7 = h := rfl
theorem get_8 : get (a :: b :: c :: d :: e :: f :: g :: h :: l) (n + 8) = get l n := by simp only [get, List.getElem?_cons_succ]
theorem set_0 : (a :: l).set 0 v = v :: l := rfl
theorem set_1 : (a :: b :: l).set 1 v = a :: v :: l := rfl
theorem set_2 : (a :: b :: c :: l).set 2 v = a :: b :: v :: l := rfl
theorem set_3 : (a :: b :: c :: d :: l).set 3 v = a :: b :: c :: v :: l := rfl
theorem set_4 : (a :: b :: c :: d :: e :: l).set 4 v = a :: b :: c :: d :: v :: l := rfl
theorem set_5 : (a :: b :: c :: d :: e :: f :: l).set 5 v = a :: b :: c :: d :: e :: v :: l := rfl
theorem set_6 : (a :: b :: c :: d :: e :: f :: g :: l).set 6 v = a :: b :: c :: d :: e :: f :: v :: l := rfl
theorem set_7 : (a :: b :: c :: d :: e :: f :: g :: h :: l).set 7 v = a :: b :: c :: d :: e :: f :: g :: v :: l := rfl
theorem set_8 : (a :: b :: c :: d :: e :: f :: g :: h :: l).set (n + 8) v = a :: b :: c :: d :: e :: f :: g :: h :: l.set n v := by simp only [List.set_cons_succ]
end
attribute [simp ↓] get_nil get_0 get_1 get_2 get_3 get_4 get_5 get_6 get_7 get_8 set_0 set_1 set_2 set_3 set_4 set_5 set_6 set_7 set_8
/-! functions -/
def retK (ap : AP) (rs : List ResultVar) (Q : AV × AH → Prop) (r : Ex × St) : Prop :=
  match r.1 with | .exit _ => False | _ => Hx (takeA r.2.marks r.2.H) fun H' => Hx (resA ap r.2.env H' rs) fun l => Q (resV l, H')
@[simp] theorem retK_normal {ap : AP} {rs : List ResultVar} {Q : AV × AH → Prop} {s : St} : retK ap rs Q (.normal, s) = Hx (takeA s.marks s.H) fun H' => Hx (resA ap s.env H' rs) fun l => Q (resV l, H') := propext ⟨fun h => h, fun h => h⟩
@[simp] theorem retK_ret {ap : AP} {rs : List ResultVar} {Q : AV × AH → Prop} {s : St} : retK ap rs Q (.ret, s) = Hx (takeA s.marks s.H) fun H' => Hx (resA ap s.env H' rs) fun l => Q (resV l, H') := propext ⟨fun h => h, fun h => h⟩
@[congr] theorem retK_congr {ap : AP} {rs : List ResultVar} {Q : AV × AH → Prop} {r r' : Ex × St} (h : tag r = r') : retK ap rs Q r = retK ap rs Q r' := by cases h; rfl
theorem hx_go {ap : AP} {k n lo nt : Nat} {rs : List ResultVar} {body : AC} (hf : ap.fn n = some ⟨nt, rs, body⟩) (hp : ap.prim n = none) {first caps args : List AV} {H : AH} {Q : AV × AH → Prop} :
    Hx (callA ap (k + 1) (.func n first caps) args lo H) Q = Hx (evCode ap (callA ap k) lo none k body ⟨(first ++ args ++ caps) ++ List.replicate (nt - (first ++ args ++ caps).length) .undef, H, []⟩) (retK ap rs Q) := by
  simp only [callA, hp, fnA, hf, Option.bind_some, tag_eq]
  rw [Hx_bind]
  congr 1
  funext r
  obtain ⟨x, s⟩ := r
  cases x with
  | exit i => simp [retK]
  | _ => exact Hx_bind.trans (congrArg (Hx _) (funext fun a => Hx_map))
theorem hx_call {ap : AP} {k n lo : Nat} {F : AFn} (hf : ap.fn n = some F) (hp : ap.prim n = none) {first caps args : List AV} {H : AH} {Q : AV × AH → Prop} :
    Hx (callA ap (k + 1) (.func n first caps) args lo H) Q = Hx (evCode ap (callA ap k) lo none k F.body ⟨(first ++ args ++ caps) ++ List.replicate (F.ntmps - (first ++ args ++ caps).length) .undef, H, []⟩) (retK ap F.results Q) := by
  simp only [callA, hp, fnA, hf, Option.bind_some, tag_eq]
  rw [Hx_bind]
  congr 1
  funext r
  obtain ⟨x, s⟩ := r
  cases x with
  | exit i => simp [retK]
  | _ => exact Hx_bind.trans (congrArg (Hx _) (funext fun a => Hx_map))
attribute [simp] stepO aoper callee wantedA opd setD mask ofV ofS abin aun takeA resA resV lenOf optAll abuiltin apT aload TD.isAgg part astore isU8 isSlice afill AV.cells splice
def toStr (H : AH) : AV → Option AV
  | .slice none _ _ _ => some (.str .empty)
  | .slice (some p) len c s => if s = 1 then (firstC H 1 len (.slice (some p) len c s)).bind fun l => (numsAV l).map fun ns => AV.str (strN ns) else none
  | _ => none
def aconv1 (ap : AP) (lo : Nat) (H : AH) (sd : Bool) (s d : TD) (x : AV) : Option (AV × AH) :=
  match s, d with
  | .int _, .int k => match x with | .int _ n => some (.int k (k.wrap n), H) | _ => none
  | .string, .string => match x with | .str s => some (.str s, H) | _ => none
  | .string, .slice e => match x with
    | .str s => if isU8 ap e then some (.slice (some (H.length, 0)) s.size none 1, H ++ [.cells (s.data.toList.map fun b => AV.int .u8 b.toNat) .rw]) else none
    | _ => none
  | .slice e, .string => if isU8 ap e then (toStr H x).map fun v => (v, H) else none
  | .slice _, .slice e => match x with
    | .slice (some (b, o)) len cap s => if (sd && isU8 ap e) && 0 < len then (rowRw H lo b).map fun _ => (AV.slice (some (b, o)) len cap s, H) else none
    | _ => none
  | _, _ => none
@[simp] theorem aconvert_eq {ap : AP} {lo : Nat} {H : AH} {src dst : TypeId} {x : AV} : aconvert ap lo H src dst x = (ap.ty src).bind fun ts => (ap.ty dst).bind fun td => aconv1 ap lo H (src == dst) ts.td td.td x := by
  unfold aconvert
  cases ap.ty src with
  | none => rfl
  | some ts =>
    cases ap.ty dst with
    | none => rfl
    | some td =>
      simp only [Option.bind_some]
      have key : ∀ (e : Nat), (match TD.slice e, TD.string, x with
          | TD.int _, TD.int k, AV.int _ n => some (AV.int k (k.wrap n), H)
          | TD.slice e, TD.string, AV.slice a len _ s => if isU8 ap e then
              match a with
              | none => some (AV.str .empty, H)
              | some _ => if s = 1 then (firstC H 1 len x).bind fun l => (numsAV l).map fun ns => (AV.str (strN ns), H) else none
            else none
          | _, _, _ => none) = if isU8 ap e then (toStr H x).map fun v => (v, H) else none := fun e => by
        by_cases hu : isU8 ap e = true
        · cases x with
          | slice a len c s =>
            cases a with
            | none => simp only [hu, if_true, toStr, Option.map_some]
            | some p =>
              by_cases h1 : s = 1
              · subst h1
                simp only [hu, if_true, toStr, Option.map_bind, Function.comp_def, Option.map_map]
              · simp only [hu, if_true, toStr, h1, if_false, Option.map_none]
          | _ => simp only [hu, if_true, toStr, Option.map_none]
        · rw [if_neg hu]
          cases x <;> simp only [hu] <;> rfl
      cases ts.td with
      | slice e =>
        cases td.td with
        | string =>
          refine Eq.trans ?_ (key e)
          cases x <;> rfl
        | slice e' =>
          cases x with
          | slice a len c s => cases a <;> rfl
          | _ => rfl
        | _ => cases x <;> rfl
      | _ => cases td.td <;> cases x <;> rfl
@[simp] theorem aconv1_int {ap : AP} {lo : Nat} {H : AH} {sd : Bool} {j k k' : IntKind} {n : Int} : aconv1 ap lo H sd (.int j) (.int k) (.int k' n) = some (.int k (k.wrap n), H) := rfl
@[simp] theorem aconv1_str {ap : AP} {lo : Nat} {H : AH} {sd : Bool} {s : ByteArray} : aconv1 ap lo H sd .string .string (.str s) = some (.str s, H) := rfl
@[simp] theorem aconv1_bytes {ap : AP} {lo : Nat} {H : AH} {sd : Bool} {s : ByteArray} {e : Nat} : aconv1 ap lo H sd .string (.slice e) (.str s) = if isU8 ap e then some (.slice (some (H.length, 0)) s.size none 1, H ++ [.cells (s.data.toList.map fun b => AV.int .u8 b.toNat) .rw]) else none := rfl
@[simp] theorem aconv1_text {ap : AP} {lo : Nat} {H : AH} {sd : Bool} {x : AV} {e : Nat} : aconv1 ap lo H sd (.slice e) .string x = if isU8 ap e then (toStr H x).map fun v => (v, H) else none := rfl
@[simp] theorem aconv1_same {ap : AP} {lo : Nat} {H : AH} {sd : Bool} {b o len s e e' : Nat} {cap : Option Nat} : aconv1 ap lo H sd (.slice e') (.slice e) (.slice (some (b, o)) len cap s) = if (sd && isU8 ap e) && 0 < len then (rowRw H lo b).map fun _ => (AV.slice (some (b, o)) len cap s, H) else none := rfl
@[simp] theorem szOk_some {sz : Nat} {p : Nat × Nat} {n : Nat} {c : Option Nat} {s : Nat} : szOk sz (.slice (some p) n c s) = (s == sz) := rfl
@[simp] theorem szOk_none {sz n : Nat} {c : Option Nat} {s : Nat} : szOk sz (.slice none n c s) = true := rfl
@[simp] theorem szOk_str {sz : Nat} {s : ByteArray} : szOk sz (.str s) = (sz == 1) := rfl
@[simp] theorem firstC_some {H : AH} {sz n b o m : Nat} {c : Option Nat} {s : Nat} : firstC H sz n (.slice (some (b, o)) m c s) = (rowOf H b).bind fun l => if o + n * sz ≤ l.length then some ((l.drop o).take (n * sz)) else none := rfl
@[simp] theorem firstC_none {H : AH} {sz n m : Nat} {c : Option Nat} {s : Nat} : firstC H sz n (.slice none m c s) = some [] := rfl
@[simp] theorem firstC_str {H : AH} {sz n : Nat} {s : ByteArray} : firstC H sz n (.str s) = some ((s.data.toList.take n).map fun x => .int .u8 x.toNat) := rfl
@[simp] theorem one_int {k : IntKind} {n : Int} : AV.one (.int k n) = true := rfl
@[simp] theorem one_bool {b : Bool} : AV.one (.bool b) = true := rfl
@[simp] theorem one_str {b : ByteArray} : AV.one (.str b) = true := rfl
@[simp] theorem one_ptr {a : Option (Nat × Nat)} : AV.one (.ptr a) = true := rfl
@[simp] theorem one_slice {a : Option (Nat × Nat)} {n : Nat} {c : Option Nat} {s : Nat} : AV.one (.slice a n c s) = true := rfl

@[simp] theorem aop_move {ap : AP} {lo : Nat} {env : List AV} {H : AH} : ∀ x, aop ap lo env H (.move x) = (some (opd env x, H)) := fun _ => by simp only [aop]; try rfl
@[simp] theorem aop_assign {ap : AP} {lo : Nat} {env : List AV} {H : AH} : ∀ x, aop ap lo env H (.assign x) = (some (opd env x, H)) := fun _ => by simp only [aop]; try rfl
@[simp] theorem aop_pick {ap : AP} {lo : Nat} {env : List AV} {H : AH} : ∀ c a b, aop ap lo env H (.pick c a b) = (match opd env c with | .bool t => some (if t then opd env a else opd env b, H) | _ => none) := fun _ _ _ => by simp only [aop]; try rfl
@[simp] theorem aop_alloc {ap : AP} {lo : Nat} {env : List AV} {H : AH} : ∀ e, aop ap lo env H (.alloc e) = ((ap.ty e).map fun ti => (AV.ptr (some (H.length, 0)), H ++ [AB.cells ti.zero .rw])) := fun _ => by simp only [aop]; try rfl
@[simp] theorem aop_box {ap : AP} {lo : Nat} {env : List AV} {H : AH} : ∀ z1 x, aop ap lo env H (.box z1 x) = ((opd env x).cells.map fun cs => (AV.ptr (some (H.length, 0)), H ++ [AB.cells cs .rw])) := fun _ _ => by simp only [aop]; try rfl
@[simp] theorem aop_build {ap : AP} {lo : Nat} {env : List AV} {H : AH} : ∀ t parts, aop ap lo env H (.build t parts) = ((ap.ty t).bind fun ti =>
    match ti.td with
    | .struct fs => if fs.all (fun f => (ap.ty f.2).isSome) = false then none else (afill (fun i => (fs[i]?).bind fun f => (ap.ty f.2).map fun tf => (f.1, tf.sz)) ti.zero (parts.toList.map fun p => (p.1, opd env p.2))).map fun cs => (AV.agg cs, H)
    | .array _ e => (ap.ty e).bind fun te => (afill (fun i => some (i * te.sz, te.sz)) ti.zero (parts.toList.map fun p => (p.1, opd env p.2))).map fun cs => (AV.agg cs, H)
    | _ => none) := fun _ _ => by simp only [aop]; try rfl
@[simp] theorem aop_buildSlice {ap : AP} {lo : Nat} {env : List AV} {H : AH} : ∀ t len parts, aop ap lo env H (.buildSlice t len parts) = ((ap.ty t).bind fun ti =>
    match ti.td with
    | .slice e => (ap.ty e).bind fun te => if te.sz = 0 ∨ len * te.sz > 65536 then none else
      (afill (fun i => some (i * te.sz, te.sz)) (List.replicate len te.zero).flatten (parts.toList.map fun p => (p.1, opd env p.2))).map fun cs => (AV.slice (some (H.length, 0)) len (some len) te.sz, H ++ [AB.cells cs .rw])
    | _ => none) := fun _ _ _ => by simp only [aop]; try rfl
@[simp] theorem aop_load {ap : AP} {lo : Nat} {env : List AV} {H : AH} : ∀ t a, aop ap lo env H (.load t a) = ((aload ap H t (opd env a)).map (·, H)) := fun _ _ => by simp only [aop]; try rfl
@[simp] theorem aop_store {ap : AP} {lo : Nat} {env : List AV} {H : AH} : ∀ t a x, aop ap lo env H (.store t a x) = ((astore ap lo H t (opd env a) (opd env x)).map fun h => (AV.undef, h)) := fun _ _ _ => by simp only [aop]; try rfl
@[simp] theorem aop_nilCheck {ap : AP} {lo : Nat} {env : List AV} {H : AH} : ∀ x, aop ap lo env H (.nilCheck x) = (match opd env x with
    | .ptr (some a) => some (.ptr (some a), H)
    | .func f a b => some (.func f a b, H)
    | .yield l => some (.yield l, H)
    | .slice a n c s => some (.slice a n c s, H)
    | _ => none) := fun _ => by simp only [aop]; try rfl
@[simp] theorem aop_binOp {ap : AP} {lo : Nat} {env : List AV} {H : AH} : ∀ op t x y z1, aop ap lo env H (.binOp op t x y z1) = ((abin ap op t (opd env x) (opd env y)).map (·, H)) := fun _ _ _ _ _ => by simp only [aop]; try rfl
@[simp] theorem aop_unOp {ap : AP} {lo : Nat} {env : List AV} {H : AH} : ∀ op z1 x, aop ap lo env H (.unOp op z1 x) = ((aun op (opd env x)).map (·, H)) := fun _ _ _ => by simp only [aop]; try rfl
@[simp] theorem aop_convert {ap : AP} {lo : Nat} {env : List AV} {H : AH} : ∀ s d x, aop ap lo env H (.convert s d x) = (aconvert ap lo H s d (opd env x)) := fun _ _ _ => by simp only [aop]; try rfl
@[simp] theorem aop_makeInterface {ap : AP} {lo : Nat} {env : List AV} {H : AH} : ∀ t x, aop ap lo env H (.makeInterface t x) = ((ap.ty t).bind fun ti => match ti.td with | .iface | .other => none | _ => some (.iface t (opd env x), H)) := fun _ _ => by simp only [aop]; try rfl
@[simp] theorem aop_makeFunc {ap : AP} {lo : Nat} {env : List AV} {H : AH} : ∀ f first caps, aop ap lo env H (.makeFunc (.func f) first caps) = (some (.func f (first.toList.map (opd env)) (caps.toList.map (opd env)), H)) := fun _ _ _ => by simp only [aop]; try rfl
@[simp] theorem aop_slice {ap : AP} {lo : Nat} {env : List AV} {H : AH} : ∀ t x lo' hi mx, aop ap lo env H (.slice t x lo' hi mx) = ((ap.ty t).bind fun ti =>
    match ti.td with
    | .slice e => (ap.ty e).bind fun te => if te.sz = 0 then none else if isSlice (opd env x) then (aslice H te.sz (opd env x) (optAll env lo') (optAll env hi) (optAll env mx)).map (·, H) else none
    | .string => if isSlice (opd env x) then none else (aslice H 1 (opd env x) (optAll env lo') (optAll env hi) (optAll env mx)).map (·, H)
    | _ => none) := fun _ _ _ _ _ => by simp only [aop]; try rfl
@[simp] theorem aop_fieldAddr {ap : AP} {lo : Nat} {env : List AV} {H : AH} : ∀ t x f, aop ap lo env H (.fieldAddr t x f) = ((ap.ty t).bind fun ti =>
    match ti.td, opd env x with
    | .struct fs, .ptr (some (b, o)) => (fs[f]?).bind fun fd => (ap.ty fd.2).bind fun tf => if tf.sz = 0 then none else some (.ptr (some (b, o + fd.1)), H)
    | _, _ => none) := fun _ _ _ => by simp only [aop]; try rfl
@[simp] theorem aop_field {ap : AP} {lo : Nat} {env : List AV} {H : AH} : ∀ t x f, aop ap lo env H (.field t x f) = ((ap.ty t).bind fun ti =>
    match ti.td, opd env x with
    | .struct fs, .agg l => (fs[f]?).bind fun fd => (ap.ty fd.2).bind fun tf => (part tf.td.isAgg tf.sz l fd.1).map (·, H)
    | _, _ => none) := fun _ _ _ => by simp only [aop]; try rfl
@[simp] theorem aop_indexAddr {ap : AP} {lo : Nat} {env : List AV} {H : AH} : ∀ t x i, aop ap lo env H (.indexAddr t x i) = ((ap.ty t).bind fun ti =>
    match ti.td, opd env x, opd env i with
    | .slice e, .slice (some (b, o)) len _ s, .int _ i => (ap.ty e).bind fun te => if s = te.sz ∧ 0 ≤ i ∧ i < len then some (.ptr (some (b, o + i.toNat * te.sz)), H) else none
    | .array n e, .ptr (some (b, o)), .int _ i => (ap.ty e).bind fun te => if 0 ≤ i ∧ i < n then some (.ptr (some (b, o + i.toNat * te.sz)), H) else none
    | _, _, _ => none) := fun _ _ _ => by simp only [aop]; try rfl
@[simp] theorem aop_index {ap : AP} {lo : Nat} {env : List AV} {H : AH} : ∀ t x i, aop ap lo env H (.index t x i) = ((ap.ty t).bind fun ti =>
    match ti.td, opd env x, opd env i with
    | .string, .str s, .int _ i => if 0 ≤ i then (s.data.toList[i.toNat]?).map fun c => (AV.int .u8 c.toNat, H) else none
    | .array n e, .agg l, .int _ i => (ap.ty e).bind fun te => if 0 ≤ i ∧ i < n then (part te.td.isAgg te.sz l (i.toNat * te.sz)).map (·, H) else none
    | _, _, _ => none) := fun _ _ _ => by simp only [aop]; try rfl
@[simp] theorem aop_extract {ap : AP} {lo : Nat} {env : List AV} {H : AH} : ∀ x i, aop ap lo env H (.extract x i) = (match opd env x with | .tuple l => (l[i]?).map (·, H) | _ => none) := fun _ _ => by simp only [aop]; try rfl
@[simp] theorem aop_builtin {ap : AP} {lo : Nat} {env : List AV} {H : AH} : ∀ (b : Builtin) (args : Array Operand) (ts : Array TypeId), aop ap lo env H (.call ⟨.builtin b, args, ts⟩) = abuiltin ap lo H b ts (args.toList.map (opd env)) := fun _ _ _ => by simp only [aop]; try rfl

/-! numbers, with names -/
def iand (k : IntKind) (x y : Int) : Int := k.wrap (BitVec.ofInt k.bits x &&& BitVec.ofInt k.bits y).toNat
def ior (k : IntKind) (x y : Int) : Int := k.wrap (BitVec.ofInt k.bits x ||| BitVec.ofInt k.bits y).toNat
def ixor (k : IntKind) (x y : Int) : Int := k.wrap (BitVec.ofInt k.bits x ^^^ BitVec.ofInt k.bits y).toNat
def ishl (k : IntKind) (x y : Int) : Int := k.wrap (x * 2 ^ (min y.toNat k.bits))
def ishr (k : IntKind) (x y : Int) : Int := x.fdiv (2 ^ (min y.toNat k.bits))
section
variable {k : IntKind} {x y : Int}
@[simp] theorem arith_add : arith .add k x y = some (.int k (k.wrap (x + y))) := rfl
@[simp] theorem arith_sub : arith .sub k x y = some (.int k (k.wrap (x - y))) := rfl
@[simp] theorem arith_mul : arith .mul k x y = some (.int k (k.wrap (x * y))) := rfl
@[simp] theorem arith_quo : arith .quo k x y = if y = 0 then none else some (.int k (k.wrap (x.tdiv y))) := rfl
@[simp] theorem arith_rem : arith .rem k x y = if y = 0 then none else some (.int k (x.tmod y)) := rfl
@[simp] theorem arith_and : arith .and k x y = some (.int k (iand k x y)) := rfl
@[simp] theorem arith_or : arith .or k x y = some (.int k (ior k x y)) := rfl
@[simp] theorem arith_xor : arith .xor k x y = some (.int k (ixor k x y)) := rfl
@[simp] theorem arith_eql : arith .eql k x y = some (.bool (decide (x = y))) := rfl
@[simp] theorem arith_neq : arith .neq k x y = some (.bool (!decide (x = y))) := rfl
@[simp] theorem arith_lss : arith .lss k x y = some (.bool (decide (x < y))) := rfl
@[simp] theorem arith_leq : arith .leq k x y = some (.bool (decide (x ≤ y))) := rfl
@[simp] theorem arith_gtr : arith .gtr k x y = some (.bool (decide (x > y))) := rfl
@[simp] theorem arith_geq : arith .geq k x y = some (.bool (decide (x ≥ y))) := rfl
@[simp] theorem strOp_eql {x y : ByteArray} : strOp .eql x y = some (.bool (x.toList == y.toList)) := rfl
@[simp] theorem strOp_neq {x y : ByteArray} : strOp .neq x y = some (.bool (!(x.toList == y.toList))) := rfl
@[simp] theorem strOp_add {x y : ByteArray} : strOp .add x y = if ((x.size + y.size : Nat) : Int) > 9223372036854775807 then none else some (.str (x ++ y)) := rfl
@[simp] theorem shift_shl : shift .shl k x y = if y < 0 then none else some (.int k (ishl k x y)) := rfl
@[simp] theorem shift_shr : shift .shr k x y = if y < 0 then none else some (.int k (ishr k x y)) := rfl
end
theorem wrap_i64 {x : Int} (h1 : -9223372036854775808 ≤ x) (h2 : x ≤ 9223372036854775807) : IntKind.i64.wrap x = x := by
  simp only [IntKind.wrap, IntKind.bits, IntKind.signed]
  simp
  omega

/-- A loop, by what decreases. -/
theorem loop_rule {α : Type} {g : St → Option (Ex × St)} {M : St → St} (st : α → St) (m : α → Nat) (I : α → Prop) (R : α → Ex × St → Prop)
    (hs : ∀ a, I a → Hx (g (st a)) fun r => (r.1 = .normal ∧ ∃ a', M r.2 = st a' ∧ I a' ∧ m a' < m a ∧ ∀ q, R a' q → R a q) ∨ (r.1 ≠ .normal ∧ R a r)) :
    ∀ (k : Nat) (a : α) (s : St), m a < k → I a → M s = st a → Hx (evLoop (fun s => g (M s)) k s) (R a)
  | 0, a, s, h, _, _ => by omega
  | k + 1, a, s, h, hI, hM => by
    have h1 := hs a hI
    simp only [evLoop, hM]
    obtain ⟨r, e, h2⟩ := Hx_iff.1 h1
    rw [e]
    obtain ⟨x, s'⟩ := r
    rcases h2 with ⟨h2, a', h3, h4, h5, h6⟩ | ⟨h2, h3⟩
    · simp only at h2
      subst h2
      simp only [Option.bind_some]
      exact (loop_rule st m I R hs k a' s' (by omega) h4 h3).mono fun q hq => h6 q hq
    · simp only at h2
      cases x with
      | normal => exact absurd rfl h2
      | exit i => simpa using h3
      | ret => simpa using h3
/-- A loop that counts: rounds 0 to n-1, then out. -/
theorem loop_for {g : St → Option (Ex × St)} {M : St → St} (st : Nat → St) (n : Nat) {Q : Ex × St → Prop}
    (hs : ∀ i, i < n → Hx (g (st i)) fun r => r.1 = .normal ∧ M r.2 = st (i + 1)) (he : Hx (g (st n)) fun r => r.1 ≠ .normal ∧ Q r) {k : Nat} {s : St} (hk : n < k) (h0 : M s = st 0) :
    Hx (evLoop (fun s => g (M s)) k s) Q := by
  refine loop_rule (α := Nat) (fun j => st (n - j)) (fun j => j) (fun j => j ≤ n) (fun _ => Q) (fun j hj => ?_) k n s hk (Nat.le_refl n) (by simpa using h0)
  cases j with
  | zero => exact he.mono fun r h => .inr h
  | succ j =>
    refine (hs (n - (j + 1)) (by omega)).mono fun r h => .inl ⟨h.1, j, ?_, by omega, by omega, fun q h => h⟩
    rw [h.2, show n - (j + 1) + 1 = n - j by omega]

section
variable {ap : AP} {cf : CallF} {lo k : Nat} {rd : Option Nat} {keep : List Bool} {b : AC} {s : St}
def maskS (keep : List Bool) (s : St) : St := ⟨mask keep s.env, s.H, s.marks⟩
theorem hx_for (st : Nat → St) (n : Nat) {Q : Ex × St → Prop}
    (hs : ∀ i, i < n → Hx (evCode ap cf lo rd k b (st i)) fun r => r.1 = .normal ∧ maskS keep r.2 = st (i + 1)) (he : Hx (evCode ap cf lo rd k b (st n)) fun r => r.1 ≠ .normal ∧ Q r) (hk : n < k) (h0 : maskS keep s = st 0) :
    Hx (evCode ap cf lo rd k (.loop keep b) s) Q := by
  simp only [evCode]
  exact loop_for (g := evCode ap cf lo rd k b) (M := maskS keep) st n hs he hk h0
theorem hx_while {α : Type} (st : α → St) (m : α → Nat) (I : α → Prop) (R : α → Ex × St → Prop) {a : α}
    (hs : ∀ a, I a → Hx (evCode ap cf lo rd k b (st a)) fun r => (r.1 = .normal ∧ ∃ a', maskS keep r.2 = st a' ∧ I a' ∧ m a' < m a ∧ ∀ q, R a' q → R a q) ∨ (r.1 ≠ .normal ∧ R a r)) (hk : m a < k) (hI : I a) (h0 : maskS keep s = st a) :
    Hx (evCode ap cf lo rd k (.loop keep b) s) (R a) := by
  simp only [evCode]
  exact loop_rule (g := evCode ap cf lo rd k b) (M := maskS keep) st m I R hs k a s hk hI h0
end

/-! bytes -/
def u8s (bs : List Int) : List AV := bs.map (AV.int .u8)
@[simp] theorem u8s_length {bs : List Int} : (u8s bs).length = bs.length := by simp [u8s]
/-- A slice of bytes, and where it lies. -/
inductive BS (H : AH) : AV → List Int → Prop
  | nil (c : Option Nat) (s : Nat) : BS H (.slice none 0 c s) []
  | at_ (b o n : Nat) (c : Option Nat) (l : List AV) (bs : List Int) (h1 : rowOf H b = some l) (h2 : o + n ≤ l.length) (h3 : (l.drop o).take n = u8s bs) (h4 : bs.length = n) : BS H (.slice (some (b, o)) n c 1) bs
theorem BS.get {H : AH} {a : Option (Nat × Nat)} {n : Nat} {c : Option Nat} {s : Nat} {bs : List Int} (h : BS H (.slice a n c s) bs) : ∀ i, i < bs.length → ∃ b o l, a = some (b, o) ∧ s = 1 ∧ rowOf H b = some l ∧ l[o + i]? = some (.int .u8 (bs.getD i 0)) := by
  intro i hi
  cases h with
  | nil => simp at hi
  | at_ b o n c l bs h1 h2 h3 h4 =>
    refine ⟨b, o, l, rfl, rfl, h1, ?_⟩
    have : ((l.drop o).take bs.length)[i]? = (u8s bs)[i]? := by rw [← h4] at h3; rw [h3]
    rw [List.getElem?_take_of_lt hi, List.getElem?_drop] at this
    rw [this]
    simp [u8s, hi]
theorem BS.slice {H : AH} {v : AV} {bs : List Int} (h : BS H v bs) : ∃ a c s, v = .slice a bs.length c s := by cases h <;> simp_all
abbrev U : AV := .undef
theorem BS.first {H : AH} {v : AV} {bs : List Int} (h : BS H v bs) : firstC H 1 bs.length v = some (u8s bs) := by
  cases h with
  | nil => rfl
  | at_ b o n c l bs h1 h2 h3 h4 => simp [firstC, h1, h4, h2, h3]
theorem BS.app {H : AH} {v : AV} {bs : List Int} (h : BS H v bs) (X : AH) : BS (H ++ X) v bs := by
  cases h with
  | nil c s => exact .nil c s
  | at_ b o n c l bs h1 h2 h3 h4 =>
    refine .at_ b o n c l bs ?_ h2 h3 h4
    unfold rowOf at h1 ⊢
    have hb : b < H.length := by
      rcases Nat.lt_or_ge b H.length with h | h
      · exact h
      · rw [List.getElem?_eq_none h] at h1; simp at h1
    rw [List.getElem?_append_left hb]; exact h1
theorem BS.sz {H : AH} {a : Option (Nat × Nat)} {n : Nat} {c : Option Nat} {s : Nat} {bs : List Int} (h : BS H (.slice a n c s) bs) : szOk 1 (.slice a n c s) = true := by cases h <;> rfl
theorem BS.inj {H : AH} {v : AV} {bs cs : List Int} (h : BS H v bs) (k : BS H v cs) : bs = cs := by
  have h1 := h.first
  have h2 := k.first
  obtain ⟨a, c, s, rfl⟩ := h.slice
  obtain ⟨a', c', s', e⟩ := k.slice
  injection e with _ e _ _
  rw [← e] at h2
  rw [h2] at h1
  have := (Option.some.inj h1).symm
  unfold u8s at this
  exact (List.map_inj_right (fun x y h => by injection h)).1 this
@[simp] theorem u8s_one {bs : List Int} : (u8s bs).all AV.one = true := by simp [u8s, AV.one]
theorem u8s_app {a b : List Int} : u8s (a ++ b) = u8s a ++ u8s b := by simp [u8s]
theorem BS.new {H X : AH} {bs : List Int} {md : Md} (hmd : md = .rw ∨ md = .ro) {i : Nat} (hX : X[i]? = some (.cells (u8s bs) md)) {n : Nat} (hn : n = bs.length) {c : Option Nat} {b : Nat} (hb : b = H.length + i) : BS (H ++ X) (.slice (some (b, 0)) n c 1) bs := by
  subst hb
  refine .at_ _ _ _ _ (u8s bs) _ ?_ (by simp [hn]) (by rw [hn, List.drop_zero, ← u8s_length, List.take_length]) hn.symm
  unfold rowOf
  rw [List.getElem?_append_right (by omega), Nat.add_sub_cancel_left, hX]
  rcases hmd with rfl | rfl <;> rfl

/-! the newer part of the heap -/
section
variable {H X : AH} {lo i : Nat} {A : AB}
@[simp] theorem rowOf_new0 : rowOf (H ++ X) H.length = rowOf X 0 := by simp [rowOf, List.getElem?_append_right]
@[simp] theorem rowOf_new : rowOf (H ++ X) (H.length + i) = rowOf X i := by simp [rowOf, List.getElem?_append_right]
theorem rowRw_new0 (h : lo ≤ H.length) : rowRw (H ++ X) lo H.length = rowRw X 0 0 := by simp [rowRw, List.getElem?_append_right, show ¬ H.length < lo by omega]
theorem rowRw_new (h : lo ≤ H.length) : rowRw (H ++ X) lo (H.length + i) = rowRw X 0 i := by simp [rowRw, List.getElem?_append_right, show ¬ H.length + i < lo by omega]
@[simp] theorem set_new0 : (H ++ X).set H.length A = H ++ X.set 0 A := by simp [List.set_append_right]
@[simp] theorem set_new : (H ++ X).set (H.length + i) A = H ++ X.set i A := by simp [List.set_append_right]
@[simp] theorem rowOf_c0 {l : List AV} : rowOf (.cells l .rw :: X) 0 = some l := rfl
@[simp] theorem rowOf_r0 {l : List AV} : rowOf (.cells l .ro :: X) 0 = some l := rfl
@[simp] theorem rowOf_succ {A : AB} : rowOf (A :: X) (i + 1) = rowOf X i := by simp [rowOf]
@[simp] theorem rowRw_c0 {l : List AV} : rowRw (.cells l .rw :: X) 0 0 = some l := rfl
@[simp] theorem rowRw_succ {A : AB} : rowRw (A :: X) 0 (i + 1) = rowRw X 0 i := by simp [rowRw]
end
@[simp] theorem u8s_ex {bs : List Int} : (∃ x, x ∈ u8s bs ∧ x.one = false) = False := by
  simp only [u8s, List.mem_map, eq_iff_iff, iff_false]
  rintro ⟨x, ⟨n, _, rfl⟩, h⟩
  cases h
theorem u8s_drop {bs : List Int} {n : Nat} : (u8s bs).drop n = u8s (bs.drop n) := by simp [u8s, List.map_drop]
theorem u8s_take {bs : List Int} {n : Nat} : (u8s bs).take n = u8s (bs.take n) := by simp [u8s, List.map_take]
/-- Append where there is room. -/
theorem append_in {H X : AH} {lo n cap : Nat} {bs rest cs : List Int} {x : AV} (hlo : lo ≤ H.length) (hx : BS (H ++ .cells (u8s (bs ++ rest)) .rw :: X) x cs) (hn : n = bs.length) (hc : n + cs.length ≤ cap) (hr : cs.length ≤ rest.length) :
    aappend lo (H ++ .cells (u8s (bs ++ rest)) .rw :: X) 1 1 (.slice (some (H.length, 0)) n (some cap) 1) x = some (.slice (some (H.length, 0)) (n + cs.length) (some cap) 1, H ++ .cells (u8s (bs ++ cs ++ rest.drop cs.length)) .rw :: X) := by
  have hf := hx.first
  obtain ⟨a, c, s, rfl⟩ := hx.slice
  have hs := hx.sz
  subst hn
  unfold aappend
  simp only [szOk_some, hs, lenOf, Option.bind_some, hf]
  by_cases h0 : cs = []
  · subst h0; simp
  · have : cs.length ≠ 0 := by simpa using h0
    simp [h0, rowRw_new0 hlo, hc, show bs.length + cs.length ≤ bs.length + rest.length by omega]
    rw [u8s_take, u8s_drop, List.take_left' rfl, List.drop_append, List.drop_eq_nil_of_le (by omega), List.nil_append, Nat.add_sub_cancel_left]
    simp [u8s_app]
/-- Append where there is none: a new row. -/
theorem append_new {H : AH} {lo n m : Nat} {a : Option (Nat × Nat)} {c s : Nat} {bs cs : List Int} {x : AV} (hv : BS H (.slice a n (some c) s) bs) (hx : BS H x cs) (hn : n = bs.length) (hc : c < n + cs.length) (h0 : cs ≠ []) (hr : n + cs.length ≤ room) (hm : m = n + cs.length) :
    aappend lo H 1 1 (.slice a n (some c) s) x = some (.slice (some (H.length, 0)) m none 1, H ++ [.cells (u8s (bs ++ cs)) .rw]) := by
  have hf := hx.first
  obtain ⟨a', c', s', rfl⟩ := hx.slice
  have hs := hx.sz
  have hs' := hv.sz
  subst hm
  have h1 : cs.length ≠ 0 := by simpa using h0
  unfold aappend
  simp only [hs', hs, lenOf, Option.bind_some, hf]
  cases hv with
  | nil => simp [h0] at hr ⊢; exact hr
  | at_ b o n c l bs g1 g2 g3 g4 =>
    simp [h0, g1, g2, show ¬ n + cs.length ≤ c by omega, hr, u8s_app]
    rw [g3]
/-- Append to a row of one's own, of which it is not known how many more it takes. -/
theorem append_own {H : AH} {lo n m b : Nat} {bs cs : List Int} {x : AV} (hb : H[b]? = some (.cells (u8s bs) .rw)) (hlo : lo ≤ b) (hx : BS H x cs) (hn : n = bs.length) (h0 : cs ≠ []) (hr : n + cs.length ≤ room) (hm : m = n + cs.length) :
    aappend lo H 1 1 (.slice (some (b, 0)) n none 1) x = some (.slice (some (H.length, 0)) m none 1, H.set b (.cells [] .dead) ++ [.cells (u8s (bs ++ cs)) .rw]) := by
  have hf := hx.first
  obtain ⟨a', c', s', rfl⟩ := hx.slice
  have hs := hx.sz
  subst hm
  have h1 : cs.length ≠ 0 := by simpa using h0
  have hro : rowOf H b = some (u8s bs) := by simp [rowOf, hb]
  have hrw : rowRw H lo b = some (u8s bs) := by simp [rowRw, hb, show ¬ b < lo by omega]
  have hpos : 0 < cs.length := by omega
  unfold aappend
  simp only [szOk_some, hs, lenOf, Option.bind_some, hf]
  simp [h0, hro, hrw, hn, show ¬ bs.length + cs.length ≤ bs.length by omega, u8s_app]
  have h2 : bs.length + cs.length ≤ room := by omega
  have h3 : (u8s bs).take bs.length = u8s bs := by rw [u8s_take, List.take_length]
  simp [h2, h3]
/-! new rows -/
/-- Can a row of so many be made? -/
def canMake (n m : Int) (by_ sz : Nat) : Prop := 0 ≤ n ∧ n ≤ m ∧ m * by_ ≤ room ∧ m ≤ 9223372036854775807 ∧ 0 < sz
instance canMake_dec {n m : Int} {by_ sz : Nat} : Decidable (canMake n m by_ sz) := by unfold canMake; infer_instance
def mkS (ap : AP) (H : AH) (t : Option TI) (l c : AV) : Option (AV × AH) :=
  t.bind fun ti => match ti.td with
  | .slice e => (ap.ty e).bind fun te => match l, c with
    | .int .i64 n, .int .i64 m => if canMake n m te.by_ te.sz then some (.slice (some (H.length, 0)) n.toNat (some m.toNat) te.sz, H ++ [.cells (List.replicate m.toNat te.zero).flatten .rw]) else none
    | _, _ => none
  | _ => none
@[simp] theorem aop_mk {ap : AP} {lo : Nat} {env : List AV} {H : AH} {t : Nat} {l c : Operand} : aop ap lo env H (.makeSlice t l c) = mkS ap H (ap.ty t) (opd env l) (opd env c) := by
  rw [aop]
  unfold mkS canMake
  rfl
attribute [simp] mkS
end Go.Ab
