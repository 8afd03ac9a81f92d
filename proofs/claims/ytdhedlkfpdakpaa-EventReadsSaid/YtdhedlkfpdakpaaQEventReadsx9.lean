-- Written by wip/x/xprint.py (an own program, over the kit's print).
import Derived.Test.YtdhedlkfpdakpaaQEventReadsx0
import Derived.Test.YtdhedlkfpdakpaaQEventReadsx1
import Derived.Test.YtdhedlkfpdakpaaQEventReadsx4
import Derived.Test.YtdhedlkfpdakpaaQEventReadsx5
import Derived.Test.YtdhedlkfpdakpaaQEventReadsx6
import Derived.Test.YtdhedlkfpdakpaaQEventReadsx7
import Derived.Test.YtdhedlkfpdakpaaQEventReadsx8
namespace Go.Proofs.Ytdhedlkfpdakpaa.QEventReads
open Go.RowKit Go.Proofs.YtdhedlkfpdakpaaW.PrintWords Go.Proofs.YtdhedlkfpdakpaaW.PrintLast Go.Proofs.YtdhedlkfpdakpaaW.PrintMore
attribute [local go_sem] max2_int min2_int max_two min_two max_three min_three max_four min_four   -- for this text's walks alone
set_option linter.unusedVariables false
set_option linter.unusedSimpArgs false

attribute [local go_sem high] eqA23
/-! ### novationref4_ReadEvent: function 36 -/
mutual
def novationref4_ReadEvent.j0 : Nat → List Int → Bool → Option (Int × Int × Int × Int × Int × Int × Int × Int × Int)
  | 0, _, _ => none
  | k + 1, x0, x20 => if x20 = true then (some (0, 0, 0, 0, 0, 0, 0, 0, 13)) else (if 0 < (x0.length : Int) then ((novationref4_Fields.f k (wrap64 (rd x0 0))).bind fun t246 => (novationref4_ReadEvent.l0 k x0 1 t246 0 (wrap64 (rd x0 0)) 0 0 0 0 0 0 0)) else (none))
def novationref4_ReadEvent.l0 : Nat → List Int → Int → ByteArray → Int → Int → Int → Int → Int → Int → Int → Int → Int → Option (Int × Int × Int × Int × Int × Int × Int × Int × Int)
  | 0, _, _, _, _, _, _, _, _, _, _, _, _ => none
  | k + 1, x0, x5, x6, x7, x246000, x246001, x246002, x246003, x246004, x246005, x246006, x246007 => if x7 < (x6.size : Int) then ((novationref4_number.f k x0 x5).bind fun bt248 => (if bt248.2 < 0 then (some (0, 0, 0, 0, 0, 0, 0, 0, 13)) else (if 0 ≤ x7 then ((novationref4_with.f x246000 x246001 x246002 x246003 x246004 x246005 x246006 x246007 (bt x6 x7) bt248.1).bind fun bt250 => (novationref4_ReadEvent.l0 k x0 bt248.2 x6 (wrap64 (x7 + 1)) bt250.1 bt250.2.1 bt250.2.2.1 bt250.2.2.2.1 bt250.2.2.2.2.1 bt250.2.2.2.2.2.1 bt250.2.2.2.2.2.2.1 bt250.2.2.2.2.2.2.2)) else (none)))) else (if x5 = (x0.length : Int) then ((novationref4_Right.f k x246000 x246001 x246002 x246003 x246004 x246005 x246006 x246007).bind fun t247 => (if t247 = true then (some (x246000, x246001, x246002, x246003, x246004, x246005, x246006, x246007, 0)) else (some (0, 0, 0, 0, 0, 0, 0, 0, 13)))) else (some (0, 0, 0, 0, 0, 0, 0, 0, 13)))
end
def novationref4_ReadEvent.f (k : Nat) (l0 : List Int) : Option (Int × Int × Int × Int × Int × Int × Int × Int × Int) := if (l0.length : Int) = 0 then (novationref4_ReadEvent.j0 k l0 true) else (if 0 < (l0.length : Int) then ((novationref4_Kind.f (wrap64 (rd l0 0))).bind fun t243 => (novationref4_ReadEvent.j0 k l0 (!t243))) else (none))
theorem novationref4_ReadEvent.mono_l : ∀ k, (∀ y0 y1, LeO (novationref4_ReadEvent.j0 k y0 y1) (novationref4_ReadEvent.j0 (k + 1) y0 y1)) ∧ (∀ y0 y1 y2 y3 y4 y5 y6 y7 y8 y9 y10 y11, LeO (novationref4_ReadEvent.l0 k y0 y1 y2 y3 y4 y5 y6 y7 y8 y9 y10 y11) (novationref4_ReadEvent.l0 (k + 1) y0 y1 y2 y3 y4 y5 y6 y7 y8 y9 y10 y11))
  | 0 => ⟨fun _ _ r h => by simp [novationref4_ReadEvent.j0] at h, fun _ _ _ _ _ _ _ _ _ _ _ _ r h => by simp [novationref4_ReadEvent.l0] at h⟩
  | k + 1 => by
    obtain ⟨ih0, ih1⟩ := novationref4_ReadEvent.mono_l k
    refine ⟨?_, ?_⟩
    · intro y0 y1
      unfold novationref4_ReadEvent.j0
      repeat' first
      | (with_reducible exact ih0 _ _)
      | (with_reducible exact ih1 _ _ _ _ _ _ _ _ _ _ _ _)
      | (with_reducible exact novationref4_Fields.mono _ _)
      | (with_reducible exact novationref4_Right.mono _ _ _ _ _ _ _ _ _)
      | (with_reducible exact novationref4_number.mono _ _ _)
      | (with_reducible exact LeO.refl _)
      | (with_reducible exact LeO.none _)
      | (with_reducible refine LeO.ite ?_ ?_)
      | (with_reducible refine LeO.bind ?_ (fun _ => ?_))
      | exact ih0 _ _
      | exact ih1 _ _ _ _ _ _ _ _ _ _ _ _
      | exact novationref4_Fields.mono _ _
      | exact novationref4_Right.mono _ _ _ _ _ _ _ _ _
      | exact novationref4_number.mono _ _ _
      | exact LeO.none _
      | refine LeO.ite ?_ ?_
      | refine LeO.bind ?_ (fun _ => ?_)
    · intro y0 y1 y2 y3 y4 y5 y6 y7 y8 y9 y10 y11
      unfold novationref4_ReadEvent.l0
      repeat' first
      | (with_reducible exact ih0 _ _)
      | (with_reducible exact ih1 _ _ _ _ _ _ _ _ _ _ _ _)
      | (with_reducible exact novationref4_Fields.mono _ _)
      | (with_reducible exact novationref4_Right.mono _ _ _ _ _ _ _ _ _)
      | (with_reducible exact novationref4_number.mono _ _ _)
      | (with_reducible exact LeO.refl _)
      | (with_reducible exact LeO.none _)
      | (with_reducible refine LeO.ite ?_ ?_)
      | (with_reducible refine LeO.bind ?_ (fun _ => ?_))
      | exact ih0 _ _
      | exact ih1 _ _ _ _ _ _ _ _ _ _ _ _
      | exact novationref4_Fields.mono _ _
      | exact novationref4_Right.mono _ _ _ _ _ _ _ _ _
      | exact novationref4_number.mono _ _ _
      | exact LeO.none _
      | refine LeO.ite ?_ ?_
      | refine LeO.bind ?_ (fun _ => ?_)
theorem novationref4_ReadEvent.mono : ∀ a0 k, LeO (novationref4_ReadEvent.f k a0) (novationref4_ReadEvent.f (k + 1) a0) := by
  intro a0 k
  obtain ⟨ih0, ih1⟩ := novationref4_ReadEvent.mono_l k
  unfold novationref4_ReadEvent.f
  repeat' first
      | (with_reducible exact ih0 _ _)
      | (with_reducible exact ih1 _ _ _ _ _ _ _ _ _ _ _ _)
      | (with_reducible exact novationref4_Fields.mono _ _)
      | (with_reducible exact novationref4_Right.mono _ _ _ _ _ _ _ _ _)
      | (with_reducible exact novationref4_number.mono _ _ _)
      | (with_reducible exact LeO.refl _)
      | (with_reducible exact LeO.none _)
      | (with_reducible refine LeO.ite ?_ ?_)
      | (with_reducible refine LeO.bind ?_ (fun _ => ?_))
      | exact ih0 _ _
      | exact ih1 _ _ _ _ _ _ _ _ _ _ _ _
      | exact novationref4_Fields.mono _ _
      | exact novationref4_Right.mono _ _ _ _ _ _ _ _ _
      | exact novationref4_number.mono _ _ _
      | exact LeO.none _
      | refine LeO.ite ?_ ?_
      | refine LeO.bind ?_ (fun _ => ?_)
def novationref4_ReadEvent.T11 : Bool × List (List Nat × List Nat) := (true, [([], []), ([], []), ([], []), ([1, 2], [1, 2]), ([], []), ([0, 3, 4], [0, 3, 4]), ([], []), ([5, 5, 0, 1, 2, 3, 4, 5], [5]), ([6, 7, 0, 1, 2, 3, 4, 5, 6, 7], [6])])
def novationref4_ReadEvent.B11 : List Nat := [0, 0, 0, 6, 0, 31, 0, 63, 255]
theorem novationref4_ReadEvent.tab11 : rtab .any (opsOf Try.f36 11) = novationref4_ReadEvent.T11 := by kernel_rfl
theorem novationref4_ReadEvent.bits11 : waitsOk novationref4_ReadEvent.T11.2 novationref4_ReadEvent.B11 = true := by kernel_rfl
set_option maxHeartbeats 8000000 in
set_option maxRecDepth 100000 in
theorem novationref4_ReadEvent.calls (k : Nat) (A0 : Option Addr) (c0 : Nat) (l0 : List Int) (r1 : Int) (r2 : Int) (r3 : Int) (r4 : Int) (r5 : Int) (r6 : Int) (r7 : Int) (r8 : Int) (r9 : Int) (w : World) (hr0 : Kd.C (Kd.int .u8) w A0 l0.length l0) (hc0 : l0.length ≤ c0) (h : novationref4_ReadEvent.f k l0 = some (r1, r2, r3, r4, r5, r6, r7, r8, r9)) :
    Calls Try.prog 36 #[.slice A0 l0.length c0] w fun e w' => e = .returned (.tuple #[.agg #[.int .i64 r1, .int .i64 r2, .int .i64 r3, .int .i64 r4, .int .i64 r5, .int .i64 r6, .int .i64 r7, .int .i64 r8], .int .i64 r9]) ∧ Below w.heap.size w w' := by
  have hu23 := Try.underlying23
  have HR0 := Aside0.mk hr0
  have HC0 := Aside0.mk hc0
  clear hr0 hc0
  have HB := Aside0.mk (Below.refl w.heap.size w)
  have H : (if (l0.length : Int) = 0 then (novationref4_ReadEvent.j0 k l0 true) else (if 0 < (l0.length : Int) then ((novationref4_Kind.f (wrap64 (rd l0 0))).bind fun t243 => (novationref4_ReadEvent.j0 k l0 (!t243))) else (none))) = some (r1, r2, r3, r4, r5, r6, r7, r8, r9) := h
  clear h
  have HC2 := Aside0.mk H
  clear H
  go_enter Try.func36, Try.ntmps36
  go_upto_region 1 with (first | ((with_reducible refine gate_dst (N := 2) rfl ?_); refine box_event ?hg (N := 2) ?hd (cs := #[.int .i64 0, .int .i64 0, .int .i64 0, .int .i64 0, .int .i64 0, .int .i64 0, .int .i64 0, .int .i64 0]) (t := 23) ?hr ?_; (case hd => rfl); (case hg => rfl); (case hr => first | (go_simp; done) | (go_simp; rfl)); intro gb241 hg w3 hbox hb; have n0_ := Aside0.mk (below_step (by repeat (first | (with_reducible first | exact HB.out | apply below_alloc | apply pw_below_drewN | apply below_drew1) | exact HB.out)) hb); have n1_ := Aside0.mk (hbox); have n2_ := Aside0.mk ((by rw [hg]; exact (below_size (by repeat (first | (with_reducible first | exact HB.out | apply below_alloc | apply pw_below_drewN | apply below_drew1) | exact HB.out))) : w.heap.size ≤ gb241)); have n3_ := Aside0.mk ((by rw [hg]; exact (below_size (by repeat (first | (with_reducible first | exact HB.out | apply below_alloc | apply pw_below_drewN | apply below_drew1) | exact HB.out))) : w.heap.size ≤ gb241)); clear HB; have HB := n0_; have BK241 := n1_; have GW241 := n2_; have GE241 := n3_; clear n0_ n1_ n2_ n3_; clear hb hbox hg))
  (try simp only [Act.put, List.setIfInBounds_toArray, List.set_cons_zero, List.set_cons_succ])
  go_cut [20] (fun v20 wc => ∃ (kq : Nat) (x20_1 : Bool), v20 = .bool x20_1 ∧ Aside0 (novationref4_ReadEvent.j0 kq l0 x20_1 = some (r1, r2, r3, r4, r5, r6, r7, r8, r9)) ∧ Aside0 (kq ≤ k) ∧ Aside0 (wc.heap[gb241]? = some (.cells #[.int .i64 0, .int .i64 0, .int .i64 0, .int .i64 0, .int .i64 0, .int .i64 0, .int .i64 0, .int .i64 0] 23 (0, 0))) ∧ Aside0 (Below w.heap.size w wc))
  case first =>
    have H := HC2.out
    clear HC2
    by_cases c4 : (l0.length : Int) = 0
    · rw [if_pos c4] at H
      have c4b0 : ((l0.length : Int) == 0) = true := beq_iff_eq.mpr c4
      have c4b1 : ((l0.length : Int) != 0) = false := bne_eq_false_iff_eq.mpr c4
      clear c4
      (first | rw [c4b0] | (simp only [i64_w, i32_w]; rw [c4b0]) | skip)
      have H' := Aside0.mk H
      clear H
      go_wp2
      go_meet
      case rel => exact ⟨_, (true), (by first | rfl | (simp; done) | (simp [*]; done)), H', ⟨by first | omega | exact Nat.le_refl _⟩, ⟨by (with_reducible repeat (first | refine blk_drewN ?_ _ | refine blk_drew ?_ | refine blk_alloc ?_ _)); exact BK241.out⟩, ⟨by repeat (first | (with_reducible first | exact HB.out | apply below_alloc | apply pw_below_drewN | apply below_drew1 | refine below_set ?_ GE241.out) | exact HB.out)⟩⟩
    · rw [if_neg c4] at H
      have c4b0 : ((l0.length : Int) == 0) = false := beq_eq_false_iff_ne.mpr c4
      have c4b1 : ((l0.length : Int) != 0) = true := bne_iff_ne.mpr c4
      have c4b2 : ¬ (l0 = []) := fun h_ => c4 (by rw [h_]; rfl)
      (first | rw [c4b0] | (simp only [i64_w, i32_w]; rw [c4b0]) | skip)
      by_cases c5 : 0 < (l0.length : Int)
      · rw [if_pos c5] at H
        have c5b0 : decide (0 < (l0.length : Int)) = true := decide_eq_true c5
        have c5b1 : decide (0 < l0.length) = true := decide_eq_true (by omega)
        clear c5
        replace H := Option.bind_eq_some_iff.mp H
        obtain ⟨t243, A60, H⟩ := H
        replace H : (novationref4_ReadEvent.j0 k l0 (!t243)) = some (r1, r2, r3, r4, r5, r6, r7, r8, r9) := H
        have A6 := Aside0.mk A60
        clear A60
        have H' := Aside0.mk H
        clear H
        have p242 : 0 ≤ (0 : Int) := (by omega)
        have q242 : 0 < (l0.length : Int) := of_decide_eq_true (by first | (with_reducible assumption) | assumption)
        obtain ⟨ad242, e242, hx242_0⟩ := Kd.at_int HR0.out 0 p242 q242
        cases e242
        have qi242 : (0 < l0.length) = True := eq_true (by omega)
        (try rw [show ((0 : Int)).toNat = 0 from rfl] at hx242_0)
        (try rw [Addr.add_zero'] at hx242_0)
        replace hx242_0 := (HB.out.cell (World.block_lt_of_cell? w _ hx242_0)).trans hx242_0
        replace p242 := eq_true p242
        replace q242 := eq_true q242
        go_wp2_with (first | (go_at_call 28; (with_reducible refine (novationref4_Kind.calls (wrap64 (rd l0 0)) t243 _ A6.out).mono ?_); rintro e w' ⟨rfl, ⟨nd, rfl⟩⟩))
        go_meet
        case rel => exact ⟨_, (!t243), (by first | rfl | (simp; done) | (simp [*]; done)), H', ⟨by first | omega | exact Nat.le_refl _⟩, ⟨by (with_reducible repeat (first | refine blk_drewN ?_ _ | refine blk_drew ?_ | refine blk_alloc ?_ _)); exact BK241.out⟩, ⟨by repeat (first | (with_reducible first | exact HB.out | apply below_alloc | apply pw_below_drewN | apply below_drew1 | refine below_set ?_ GE241.out) | exact HB.out)⟩⟩
      · rw [if_neg c5] at H
        exact absurd H (by simp)
  case rest =>
    clear HC2
    try clear p2
    try clear q2
    try clear hx2
    try clear qi2
    try clear c3
    try clear c4
    try clear c4b0
    try clear c4b1
    try clear c4b2
    try clear c5
    try clear c5b0
    try clear c5b1
    try clear p6
    try clear hx242_0
    try clear p242
    try clear q242
    obtain ⟨kq, x20_1, rfl, HA, HJ1, BK241, HB⟩ := hcut
    cases kq with
    | zero => exact absurd HA.out (by simp [novationref4_ReadEvent.j0])
    | succ kj1 =>
      have H := HA.out
      clear HA
      simp only [novationref4_ReadEvent.j0] at H
      by_cases c7 : x20_1 = true
      · subst c7
        have H1 : (some (0, 0, 0, 0, 0, 0, 0, 0, 13)) = some (r1, r2, r3, r4, r5, r6, r7, r8, r9) := by rw [if_pos rfl] at H; exact H
        clear H
        have H := H1
        clear H1
        simp only [Option.some.injEq, Prod.mk.injEq] at H
        obtain ⟨rfl, rfl, rfl, rfl, rfl, rfl, rfl, rfl, rfl⟩ := H
        have hcz8_0 : wc.cell? ⟨gb241, 0, none⟩ = some (.int .i64 0) := (blk_cell BK241.out 0).trans rfl
        have hcz8_1 : wc.cell? ⟨gb241, 1, none⟩ = some (.int .i64 0) := (blk_cell BK241.out 1).trans rfl
        have hcz8_2 : wc.cell? ⟨gb241, 2, none⟩ = some (.int .i64 0) := (blk_cell BK241.out 2).trans rfl
        have hcz8_3 : wc.cell? ⟨gb241, 3, none⟩ = some (.int .i64 0) := (blk_cell BK241.out 3).trans rfl
        have hcz8_4 : wc.cell? ⟨gb241, 4, none⟩ = some (.int .i64 0) := (blk_cell BK241.out 4).trans rfl
        have hcz8_5 : wc.cell? ⟨gb241, 5, none⟩ = some (.int .i64 0) := (blk_cell BK241.out 5).trans rfl
        have hcz8_6 : wc.cell? ⟨gb241, 6, none⟩ = some (.int .i64 0) := (blk_cell BK241.out 6).trans rfl
        have hcz8_7 : wc.cell? ⟨gb241, 7, none⟩ = some (.int .i64 0) := (blk_cell BK241.out 7).trans rfl
        have hfz8_0 := blk_frozen BK241.out 0
        have hfz8_1 := blk_frozen BK241.out 1
        have hfz8_2 := blk_frozen BK241.out 2
        have hfz8_3 := blk_frozen BK241.out 3
        have hfz8_4 := blk_frozen BK241.out 4
        have hfz8_5 := blk_frozen BK241.out 5
        have hfz8_6 := blk_frozen BK241.out 6
        have hfz8_7 := blk_frozen BK241.out 7
        go_wp2
        refine bodyPost_ret (results_ct rfl _ _ gb241 23 #[.int .i64 0, .int .i64 0, .int .i64 0, .int .i64 0, .int .i64 0, .int .i64 0, .int .i64 0, .int .i64 0] (0, 0) _ rfl (by (with_reducible repeat (first | refine blk_drewN ?_ _ | refine blk_drew ?_ | refine blk_alloc ?_ _)); refine blk_put (cs := #[.int .i64 0, .int .i64 0, .int .i64 0, .int .i64 0, .int .i64 0, .int .i64 0, .int .i64 0, .int .i64 0]) ?_ 7 _ rfl; (with_reducible repeat (first | refine blk_drewN ?_ _ | refine blk_drew ?_ | refine blk_alloc ?_ _)); refine blk_put (cs := #[.int .i64 0, .int .i64 0, .int .i64 0, .int .i64 0, .int .i64 0, .int .i64 0, .int .i64 0, .int .i64 0]) ?_ 6 _ rfl; (with_reducible repeat (first | refine blk_drewN ?_ _ | refine blk_drew ?_ | refine blk_alloc ?_ _)); refine blk_put (cs := #[.int .i64 0, .int .i64 0, .int .i64 0, .int .i64 0, .int .i64 0, .int .i64 0, .int .i64 0, .int .i64 0]) ?_ 5 _ rfl; (with_reducible repeat (first | refine blk_drewN ?_ _ | refine blk_drew ?_ | refine blk_alloc ?_ _)); refine blk_put (cs := #[.int .i64 0, .int .i64 0, .int .i64 0, .int .i64 0, .int .i64 0, .int .i64 0, .int .i64 0, .int .i64 0]) ?_ 4 _ rfl; (with_reducible repeat (first | refine blk_drewN ?_ _ | refine blk_drew ?_ | refine blk_alloc ?_ _)); refine blk_put (cs := #[.int .i64 0, .int .i64 0, .int .i64 0, .int .i64 0, .int .i64 0, .int .i64 0, .int .i64 0, .int .i64 0]) ?_ 3 _ rfl; (with_reducible repeat (first | refine blk_drewN ?_ _ | refine blk_drew ?_ | refine blk_alloc ?_ _)); refine blk_put (cs := #[.int .i64 0, .int .i64 0, .int .i64 0, .int .i64 0, .int .i64 0, .int .i64 0, .int .i64 0, .int .i64 0]) ?_ 2 _ rfl; (with_reducible repeat (first | refine blk_drewN ?_ _ | refine blk_drew ?_ | refine blk_alloc ?_ _)); refine blk_put (cs := #[.int .i64 0, .int .i64 0, .int .i64 0, .int .i64 0, .int .i64 0, .int .i64 0, .int .i64 0, .int .i64 0]) ?_ 1 _ rfl; (with_reducible repeat (first | refine blk_drewN ?_ _ | refine blk_drew ?_ | refine blk_alloc ?_ _)); refine blk_put (cs := #[.int .i64 0, .int .i64 0, .int .i64 0, .int .i64 0, .int .i64 0, .int .i64 0, .int .i64 0, .int .i64 0]) ?_ 0 _ rfl; (with_reducible repeat (first | refine blk_drewN ?_ _ | refine blk_drew ?_ | refine blk_alloc ?_ _)); exact BK241.out) Try.underlying23 rfl (by kernel_rfl)) rfl ?_
        exact ⟨by first | rfl | (simp [errW_none, errW_some] <;> rfl) | (simp [*, errW_none, errW_some] <;> rfl), by repeat (first | (with_reducible first | exact HB.out | apply below_alloc | apply pw_below_drewN | apply below_drew1 | refine below_set ?_ GE241.out) | exact HB.out)⟩
      · replace c7 := Bool.eq_false_iff.mpr c7
        subst c7
        have H1 : (if 0 < (l0.length : Int) then ((novationref4_Fields.f kj1 (wrap64 (rd l0 0))).bind fun t246 => (novationref4_ReadEvent.l0 kj1 l0 1 t246 0 (wrap64 (rd l0 0)) 0 0 0 0 0 0 0)) else (none)) = some (r1, r2, r3, r4, r5, r6, r7, r8, r9) := by rw [if_neg (show ¬ (false = true) by decide)] at H; exact H
        clear H
        have H := H1
        clear H1
        by_cases c9 : 0 < (l0.length : Int)
        · rw [if_pos c9] at H
          have c9b0 : decide (0 < (l0.length : Int)) = true := decide_eq_true c9
          have c9b1 : decide (0 < l0.length) = true := decide_eq_true (by omega)
          clear c9
          replace H := Option.bind_eq_some_iff.mp H
          obtain ⟨t246, A100, H⟩ := H
          replace H : (novationref4_ReadEvent.l0 kj1 l0 1 t246 0 (wrap64 (rd l0 0)) 0 0 0 0 0 0 0) = some (r1, r2, r3, r4, r5, r6, r7, r8, r9) := H
          have A10 := Aside0.mk A100
          clear A100
          have H' := Aside0.mk H
          clear H
          have p244 : 0 ≤ (0 : Int) := (by omega)
          have q244 : 0 < (l0.length : Int) := of_decide_eq_true (by first | (with_reducible assumption) | assumption)
          obtain ⟨ad244, e244, hx244_0⟩ := Kd.at_int HR0.out 0 p244 q244
          cases e244
          have qi244 : (0 < l0.length) = True := eq_true (by omega)
          (try rw [show ((0 : Int)).toNat = 0 from rfl] at hx244_0)
          (try rw [Addr.add_zero'] at hx244_0)
          replace hx244_0 := (HB.out.cell (World.block_lt_of_cell? w _ hx244_0)).trans hx244_0
          replace p244 := eq_true p244
          replace q244 := eq_true q244
          go_wp2_with (first | ((with_reducible refine gate_dst (N := 4) rfl ?_); refine box_event ?hg (N := 4) ?hd (cs := #[.int .i64 0, .int .i64 0, .int .i64 0, .int .i64 0, .int .i64 0, .int .i64 0, .int .i64 0, .int .i64 0]) (t := 23) ?hr ?_; (case hd => rfl); (case hg => rfl); (case hr => first | (go_simp; done) | (go_simp; rfl)); intro gb245 hg w11 hbox hb; have n0_ := Aside0.mk (blk_below (g := gb241) (o := .cells #[.int .i64 0, .int .i64 0, .int .i64 0, .int .i64 0, .int .i64 0, .int .i64 0, .int .i64 0, .int .i64 0] 23 (0, 0)) (by (with_reducible repeat (first | refine blk_drewN ?_ _ | refine blk_drew ?_ | refine blk_alloc ?_ _)); exact BK241.out) hb); have n1_ := Aside0.mk (below_step (by repeat (first | (with_reducible first | exact HB.out | apply below_alloc | apply pw_below_drewN | apply below_drew1 | refine below_set ?_ GE241.out) | exact HB.out)) hb); have n2_ := Aside0.mk (hbox); have n3_ := Aside0.mk ((by rw [hg]; exact (below_size (by repeat (first | (with_reducible first | exact HB.out | apply below_alloc | apply pw_below_drewN | apply below_drew1 | refine below_set ?_ GE241.out) | exact HB.out))) : w.heap.size ≤ gb245)); have n4_ := Aside0.mk ((by rw [hg]; exact (below_size (by repeat (first | (with_reducible first | exact HB.out | apply below_alloc | apply pw_below_drewN | apply below_drew1 | refine below_set ?_ GE241.out) | exact HB.out))) : w.heap.size ≤ gb245)); have n5_ := Aside0.mk ((by rw [hg]; exact Nat.ne_of_lt (blk_lt (g := gb241) (o := .cells #[.int .i64 0, .int .i64 0, .int .i64 0, .int .i64 0, .int .i64 0, .int .i64 0, .int .i64 0, .int .i64 0] 23 (0, 0)) (by (with_reducible repeat (first | refine blk_drewN ?_ _ | refine blk_drew ?_ | refine blk_alloc ?_ _)); exact BK241.out)) : gb241 ≠ gb245)); have n6_ := Aside0.mk ((by rw [hg]; exact Nat.ne_of_gt (blk_lt (g := gb241) (o := .cells #[.int .i64 0, .int .i64 0, .int .i64 0, .int .i64 0, .int .i64 0, .int .i64 0, .int .i64 0, .int .i64 0] 23 (0, 0)) (by (with_reducible repeat (first | refine blk_drewN ?_ _ | refine blk_drew ?_ | refine blk_alloc ?_ _)); exact BK241.out)) : gb245 ≠ gb241)); clear BK241; clear HB; have BK241 := n0_; have HB := n1_; have BK245 := n2_; have GW245 := n3_; have GE245 := n4_; have NB241_245 := n5_; have NB245_241 := n6_; clear n0_ n1_ n2_ n3_ n4_ n5_ n6_; clear hb hbox hg; have hnb12 := NB245_241.out; have hnc12 := NB241_245.out; have hcz13_0 : w11.cell? ⟨gb245, 0, none⟩ = some (.int .i64 0) := (blk_cell BK245.out 0).trans rfl; have hcz13_1 : w11.cell? ⟨gb245, 1, none⟩ = some (.int .i64 0) := (blk_cell BK245.out 1).trans rfl; have hcz13_2 : w11.cell? ⟨gb245, 2, none⟩ = some (.int .i64 0) := (blk_cell BK245.out 2).trans rfl; have hcz13_3 : w11.cell? ⟨gb245, 3, none⟩ = some (.int .i64 0) := (blk_cell BK245.out 3).trans rfl; have hcz13_4 : w11.cell? ⟨gb245, 4, none⟩ = some (.int .i64 0) := (blk_cell BK245.out 4).trans rfl; have hcz13_5 : w11.cell? ⟨gb245, 5, none⟩ = some (.int .i64 0) := (blk_cell BK245.out 5).trans rfl; have hcz13_6 : w11.cell? ⟨gb245, 6, none⟩ = some (.int .i64 0) := (blk_cell BK245.out 6).trans rfl; have hcz13_7 : w11.cell? ⟨gb245, 7, none⟩ = some (.int .i64 0) := (blk_cell BK245.out 7).trans rfl; have hfz13_0 := blk_frozen BK245.out 0; have hfz13_1 := blk_frozen BK245.out 1; have hfz13_2 := blk_frozen BK245.out 2; have hfz13_3 := blk_frozen BK245.out 3; have hfz13_4 := blk_frozen BK245.out 4; have hfz13_5 := blk_frozen BK245.out 5; have hfz13_6 := blk_frozen BK245.out 6; have hfz13_7 := blk_frozen BK245.out 7) | ((with_reducible refine gate_callee (f := 15) rfl ?_); refine goesL_ (some 29) rfl rfl Try.func15 (by kernel_rfl) rfl #[.int .i64 (wrap64 (rd l0 0))] rfl (by (try simp only [List.map_toArray, List.map_cons, List.map_nil]); first | done | rfl | (simp only [List.length_drop, List.length_take]; rfl)) ?_; (with_reducible refine (novationref4_Fields.calls kj1 (wrap64 (rd l0 0)) t246 _ A10.out).mono ?_); rintro e w' ⟨rfl, ⟨nd, rfl⟩⟩; refine ⟨_, rfl, ?_⟩))
          go_loopg [5, 7] kj1 (fun kq v5 v7 w' => ∃ (x5_2 : Int) (x7_2 : Int) (x242000_2 : Int) (x242001_2 : Int) (x242002_2 : Int) (x242003_2 : Int) (x242004_2 : Int) (x242005_2 : Int) (x242006_2 : Int) (x242007_2 : Int) (x246000_2 : Int) (x246001_2 : Int) (x246002_2 : Int) (x246003_2 : Int) (x246004_2 : Int) (x246005_2 : Int) (x246006_2 : Int) (x246007_2 : Int), v5 = .int .i64 x5_2 ∧ v7 = .int .i64 x7_2 ∧ Aside0 (novationref4_ReadEvent.l0 kq l0 x5_2 t246 x7_2 x246000_2 x246001_2 x246002_2 x246003_2 x246004_2 x246005_2 x246006_2 x246007_2 = some (r1, r2, r3, r4, r5, r6, r7, r8, r9)) ∧ Aside0 (kq ≤ kj1) ∧ Aside0 (w'.heap[gb241]? = some (.cells #[.int .i64 x242000_2, .int .i64 x242001_2, .int .i64 x242002_2, .int .i64 x242003_2, .int .i64 x242004_2, .int .i64 x242005_2, .int .i64 x242006_2, .int .i64 x242007_2] 23 (0, 0))) ∧ Aside0 (w'.heap[gb245]? = some (.cells #[.int .i64 x246000_2, .int .i64 x246001_2, .int .i64 x246002_2, .int .i64 x246003_2, .int .i64 x246004_2, .int .i64 x246005_2, .int .i64 x246006_2, .int .i64 x246007_2] 23 (0, 0))) ∧ Aside0 (Below w.heap.size w w'))
          case atStart => exact ⟨(1), (0), (0), (0), (0), (0), (0), (0), (0), (0), (wrap64 (rd l0 0)), (0), (0), (0), (0), (0), (0), (0), (by first | rfl | (simp; done) | (simp [*]; done)), (by first | rfl | (simp; done) | (simp [*]; done)), H', ⟨Nat.le_refl _⟩, ⟨by (with_reducible repeat (first | refine blk_drewN ?_ _ | refine blk_drew ?_ | refine blk_alloc ?_ _)); refine blk_far ?_ NB241_245.out _; (with_reducible repeat (first | refine blk_drewN ?_ _ | refine blk_drew ?_ | refine blk_alloc ?_ _)); refine blk_far ?_ NB241_245.out _; (with_reducible repeat (first | refine blk_drewN ?_ _ | refine blk_drew ?_ | refine blk_alloc ?_ _)); refine blk_far ?_ NB241_245.out _; (with_reducible repeat (first | refine blk_drewN ?_ _ | refine blk_drew ?_ | refine blk_alloc ?_ _)); refine blk_far ?_ NB241_245.out _; (with_reducible repeat (first | refine blk_drewN ?_ _ | refine blk_drew ?_ | refine blk_alloc ?_ _)); refine blk_far ?_ NB241_245.out _; (with_reducible repeat (first | refine blk_drewN ?_ _ | refine blk_drew ?_ | refine blk_alloc ?_ _)); refine blk_far ?_ NB241_245.out _; (with_reducible repeat (first | refine blk_drewN ?_ _ | refine blk_drew ?_ | refine blk_alloc ?_ _)); refine blk_far ?_ NB241_245.out _; (with_reducible repeat (first | refine blk_drewN ?_ _ | refine blk_drew ?_ | refine blk_alloc ?_ _)); refine blk_far ?_ NB241_245.out _; (with_reducible repeat (first | refine blk_drewN ?_ _ | refine blk_drew ?_ | refine blk_alloc ?_ _)); exact BK241.out⟩, ⟨by (with_reducible repeat (first | refine blk_drewN ?_ _ | refine blk_drew ?_ | refine blk_alloc ?_ _)); refine blk_put (cs := #[.int .i64 (wrap64 (rd l0 0)), .int .i64 0, .int .i64 0, .int .i64 0, .int .i64 0, .int .i64 0, .int .i64 0, .int .i64 0]) ?_ 7 _ rfl; (with_reducible repeat (first | refine blk_drewN ?_ _ | refine blk_drew ?_ | refine blk_alloc ?_ _)); refine blk_put (cs := #[.int .i64 (wrap64 (rd l0 0)), .int .i64 0, .int .i64 0, .int .i64 0, .int .i64 0, .int .i64 0, .int .i64 0, .int .i64 0]) ?_ 6 _ rfl; (with_reducible repeat (first | refine blk_drewN ?_ _ | refine blk_drew ?_ | refine blk_alloc ?_ _)); refine blk_put (cs := #[.int .i64 (wrap64 (rd l0 0)), .int .i64 0, .int .i64 0, .int .i64 0, .int .i64 0, .int .i64 0, .int .i64 0, .int .i64 0]) ?_ 5 _ rfl; (with_reducible repeat (first | refine blk_drewN ?_ _ | refine blk_drew ?_ | refine blk_alloc ?_ _)); refine blk_put (cs := #[.int .i64 (wrap64 (rd l0 0)), .int .i64 0, .int .i64 0, .int .i64 0, .int .i64 0, .int .i64 0, .int .i64 0, .int .i64 0]) ?_ 4 _ rfl; (with_reducible repeat (first | refine blk_drewN ?_ _ | refine blk_drew ?_ | refine blk_alloc ?_ _)); refine blk_put (cs := #[.int .i64 (wrap64 (rd l0 0)), .int .i64 0, .int .i64 0, .int .i64 0, .int .i64 0, .int .i64 0, .int .i64 0, .int .i64 0]) ?_ 3 _ rfl; (with_reducible repeat (first | refine blk_drewN ?_ _ | refine blk_drew ?_ | refine blk_alloc ?_ _)); refine blk_put (cs := #[.int .i64 (wrap64 (rd l0 0)), .int .i64 0, .int .i64 0, .int .i64 0, .int .i64 0, .int .i64 0, .int .i64 0, .int .i64 0]) ?_ 2 _ rfl; (with_reducible repeat (first | refine blk_drewN ?_ _ | refine blk_drew ?_ | refine blk_alloc ?_ _)); refine blk_put (cs := #[.int .i64 (wrap64 (rd l0 0)), .int .i64 0, .int .i64 0, .int .i64 0, .int .i64 0, .int .i64 0, .int .i64 0, .int .i64 0]) ?_ 1 _ rfl; (with_reducible repeat (first | refine blk_drewN ?_ _ | refine blk_drew ?_ | refine blk_alloc ?_ _)); refine blk_put (cs := #[.int .i64 0, .int .i64 0, .int .i64 0, .int .i64 0, .int .i64 0, .int .i64 0, .int .i64 0, .int .i64 0]) ?_ 0 _ rfl; (with_reducible repeat (first | refine blk_drewN ?_ _ | refine blk_drew ?_ | refine blk_alloc ?_ _)); exact BK245.out⟩, ⟨by repeat (first | (with_reducible first | exact HB.out | apply below_alloc | apply pw_below_drewN | apply below_drew1 | refine below_set ?_ GE241.out | refine below_set ?_ GE245.out) | exact HB.out)⟩⟩
          case round =>
            clear H'
            try clear c1
            try clear p2
            try clear q2
            try clear hx2
            try clear qi2
            try clear c3
            try clear c4
            try clear c4b0
            try clear c4b1
            try clear c4b2
            try clear c5
            try clear c5b0
            try clear c5b1
            try clear p6
            try clear c7
            try clear c9
            try clear c9b0
            try clear c9b1
            try clear c12
            try clear hcz13_0
            try clear hcz13_1
            try clear hcz13_2
            try clear hcz13_3
            try clear hcz13_4
            try clear hcz13_5
            try clear hcz13_6
            try clear hcz13_7
            try clear hcz8_0
            try clear hcz8_1
            try clear hcz8_2
            try clear hcz8_3
            try clear hcz8_4
            try clear hcz8_5
            try clear hcz8_6
            try clear hcz8_7
            try clear hfz13_0
            try clear hfz13_1
            try clear hfz13_2
            try clear hfz13_3
            try clear hfz13_4
            try clear hfz13_5
            try clear hfz13_6
            try clear hfz13_7
            try clear hfz8_0
            try clear hfz8_1
            try clear hfz8_2
            try clear hfz8_3
            try clear hfz8_4
            try clear hfz8_5
            try clear hfz8_6
            try clear hfz8_7
            try clear hx242_0
            try clear hx244_0
            try clear p2
            try clear p242
            try clear p244
            try clear p6
            try clear q2
            try clear q242
            try clear q244
            obtain ⟨x5_2, x7_2, x242000_2, x242001_2, x242002_2, x242003_2, x242004_2, x242005_2, x242006_2, x242007_2, x246000_2, x246001_2, x246002_2, x246003_2, x246004_2, x246005_2, x246006_2, x246007_2, rfl, rfl, HA, HK2, BK241, BK245, HB⟩ := hrel
            cases gk with
            | zero => exact absurd HA.out (by simp [novationref4_ReadEvent.l0])
            | succ k2 =>
              have H := HA.out
              clear HA
              simp only [novationref4_ReadEvent.l0] at H
              by_cases c14 : x7_2 < (t246.size : Int)
              · rw [if_pos c14] at H
                have c14b0 : decide (x7_2 < (t246.size : Int)) = true := decide_eq_true c14
                clear c14
                replace H := Option.bind_eq_some_iff.mp H
                obtain ⟨⟨t248, t249⟩, A150, H⟩ := H
                replace H : (if t249 < 0 then (some (0, 0, 0, 0, 0, 0, 0, 0, 13)) else (if 0 ≤ x7_2 then ((novationref4_with.f x246000_2 x246001_2 x246002_2 x246003_2 x246004_2 x246005_2 x246006_2 x246007_2 (bt t246 x7_2) t248).bind fun bt250 => (novationref4_ReadEvent.l0 k2 l0 t249 t246 (wrap64 (x7_2 + 1)) bt250.1 bt250.2.1 bt250.2.2.1 bt250.2.2.2.1 bt250.2.2.2.2.1 bt250.2.2.2.2.2.1 bt250.2.2.2.2.2.2.1 bt250.2.2.2.2.2.2.2)) else (none))) = some (r1, r2, r3, r4, r5, r6, r7, r8, r9) := H
                have A15 := Aside0.mk A150
                clear A150
                by_cases c16 : t249 < 0
                · rw [if_pos c16] at H
                  have c16b0 : decide (t249 < 0) = true := decide_eq_true c16
                  clear c16
                  simp only [Option.some.injEq, Prod.mk.injEq] at H
                  obtain ⟨rfl, rfl, rfl, rfl, rfl, rfl, rfl, rfl, rfl⟩ := H
                  go_wp2_with (first | ((with_reducible refine gate_callee (f := 42) rfl ?_); refine goesL_ (some 39) rfl rfl Try.func42 (by kernel_rfl) rfl #[.slice (some ad244) l0.length c0, .int .i64 x5_2] rfl (by (try simp only [List.map_toArray, List.map_cons, List.map_nil]); first | done | rfl | (simp only [List.length_drop, List.length_take]; rfl)) ?_; (with_reducible refine (novationref4_number.calls k2 _ _ l0 x5_2 t248 t249 _ ?side1 ?side2 A15.out).mono ?_); (case side1 => repeat (first | exact (Kd.C_below HR0.out HB.out) | (with_reducible refine Kd.C_alloc ?_ _) | (with_reducible refine Kd.C_drewN ?_ _) | (with_reducible refine Kd.C_drew ?_))); (case side2 => exact HC0.out); rintro e w' ⟨rfl, ⟨nd, rfl⟩⟩; refine ⟨_, rfl, ?_⟩; (try (rw [drewN_self wr]; generalize hq_ : World.drewN wr _ = wr; have n0_ : Aside0 (wr.heap[gb241]? = some (.cells #[.int .i64 x242000_2, .int .i64 x242001_2, .int .i64 x242002_2, .int .i64 x242003_2, .int .i64 x242004_2, .int .i64 x242005_2, .int .i64 x242006_2, .int .i64 x242007_2] 23 (0, 0))) := ⟨by rw [← hq_]; exact (by (with_reducible repeat (first | refine blk_drewN ?_ _ | refine blk_drew ?_ | refine blk_alloc ?_ _)); exact BK241.out)⟩; have n1_ : Aside0 (wr.heap[gb245]? = some (.cells #[.int .i64 x246000_2, .int .i64 x246001_2, .int .i64 x246002_2, .int .i64 x246003_2, .int .i64 x246004_2, .int .i64 x246005_2, .int .i64 x246006_2, .int .i64 x246007_2] 23 (0, 0))) := ⟨by rw [← hq_]; exact (by (with_reducible repeat (first | refine blk_drewN ?_ _ | refine blk_drew ?_ | refine blk_alloc ?_ _)); exact BK245.out)⟩; have n2_ : Aside0 (Below w.heap.size w wr) := ⟨by rw [← hq_]; exact (by repeat (first | (with_reducible first | exact HB.out | apply below_alloc | apply pw_below_drewN | apply below_drew1 | refine below_set ?_ GE241.out | refine below_set ?_ GE245.out) | exact HB.out))⟩; clear BK241 BK245 HB hq_; have BK241 := n0_; have BK245 := n1_; have HB := n2_; clear n0_ n1_ n2_)); have hnb17 := NB241_245.out; have hnc17 := NB245_241.out; have hcz18_0 : wr.cell? ⟨gb241, 0, none⟩ = some (.int .i64 x242000_2) := (blk_cell BK241.out 0).trans rfl; have hcz18_1 : wr.cell? ⟨gb241, 1, none⟩ = some (.int .i64 x242001_2) := (blk_cell BK241.out 1).trans rfl; have hcz18_2 : wr.cell? ⟨gb241, 2, none⟩ = some (.int .i64 x242002_2) := (blk_cell BK241.out 2).trans rfl; have hcz18_3 : wr.cell? ⟨gb241, 3, none⟩ = some (.int .i64 x242003_2) := (blk_cell BK241.out 3).trans rfl; have hcz18_4 : wr.cell? ⟨gb241, 4, none⟩ = some (.int .i64 x242004_2) := (blk_cell BK241.out 4).trans rfl; have hcz18_5 : wr.cell? ⟨gb241, 5, none⟩ = some (.int .i64 x242005_2) := (blk_cell BK241.out 5).trans rfl; have hcz18_6 : wr.cell? ⟨gb241, 6, none⟩ = some (.int .i64 x242006_2) := (blk_cell BK241.out 6).trans rfl; have hcz18_7 : wr.cell? ⟨gb241, 7, none⟩ = some (.int .i64 x242007_2) := (blk_cell BK241.out 7).trans rfl; have hfz18_0 := blk_frozen BK241.out 0; have hfz18_1 := blk_frozen BK241.out 1; have hfz18_2 := blk_frozen BK241.out 2; have hfz18_3 := blk_frozen BK241.out 3; have hfz18_4 := blk_frozen BK241.out 4; have hfz18_5 := blk_frozen BK241.out 5; have hfz18_6 := blk_frozen BK241.out 6; have hfz18_7 := blk_frozen BK241.out 7))
                  refine bodyPost_ret (results_ct rfl _ _ gb241 23 #[.int .i64 0, .int .i64 0, .int .i64 0, .int .i64 0, .int .i64 0, .int .i64 0, .int .i64 0, .int .i64 0] (0, 0) _ rfl (by (with_reducible repeat (first | refine blk_drewN ?_ _ | refine blk_drew ?_ | refine blk_alloc ?_ _)); refine blk_put (cs := #[.int .i64 0, .int .i64 0, .int .i64 0, .int .i64 0, .int .i64 0, .int .i64 0, .int .i64 0, .int .i64 x242007_2]) ?_ 7 _ rfl; (with_reducible repeat (first | refine blk_drewN ?_ _ | refine blk_drew ?_ | refine blk_alloc ?_ _)); refine blk_put (cs := #[.int .i64 0, .int .i64 0, .int .i64 0, .int .i64 0, .int .i64 0, .int .i64 0, .int .i64 x242006_2, .int .i64 x242007_2]) ?_ 6 _ rfl; (with_reducible repeat (first | refine blk_drewN ?_ _ | refine blk_drew ?_ | refine blk_alloc ?_ _)); refine blk_put (cs := #[.int .i64 0, .int .i64 0, .int .i64 0, .int .i64 0, .int .i64 0, .int .i64 x242005_2, .int .i64 x242006_2, .int .i64 x242007_2]) ?_ 5 _ rfl; (with_reducible repeat (first | refine blk_drewN ?_ _ | refine blk_drew ?_ | refine blk_alloc ?_ _)); refine blk_put (cs := #[.int .i64 0, .int .i64 0, .int .i64 0, .int .i64 0, .int .i64 x242004_2, .int .i64 x242005_2, .int .i64 x242006_2, .int .i64 x242007_2]) ?_ 4 _ rfl; (with_reducible repeat (first | refine blk_drewN ?_ _ | refine blk_drew ?_ | refine blk_alloc ?_ _)); refine blk_put (cs := #[.int .i64 0, .int .i64 0, .int .i64 0, .int .i64 x242003_2, .int .i64 x242004_2, .int .i64 x242005_2, .int .i64 x242006_2, .int .i64 x242007_2]) ?_ 3 _ rfl; (with_reducible repeat (first | refine blk_drewN ?_ _ | refine blk_drew ?_ | refine blk_alloc ?_ _)); refine blk_put (cs := #[.int .i64 0, .int .i64 0, .int .i64 x242002_2, .int .i64 x242003_2, .int .i64 x242004_2, .int .i64 x242005_2, .int .i64 x242006_2, .int .i64 x242007_2]) ?_ 2 _ rfl; (with_reducible repeat (first | refine blk_drewN ?_ _ | refine blk_drew ?_ | refine blk_alloc ?_ _)); refine blk_put (cs := #[.int .i64 0, .int .i64 x242001_2, .int .i64 x242002_2, .int .i64 x242003_2, .int .i64 x242004_2, .int .i64 x242005_2, .int .i64 x242006_2, .int .i64 x242007_2]) ?_ 1 _ rfl; (with_reducible repeat (first | refine blk_drewN ?_ _ | refine blk_drew ?_ | refine blk_alloc ?_ _)); refine blk_put (cs := #[.int .i64 x242000_2, .int .i64 x242001_2, .int .i64 x242002_2, .int .i64 x242003_2, .int .i64 x242004_2, .int .i64 x242005_2, .int .i64 x242006_2, .int .i64 x242007_2]) ?_ 0 _ rfl; (with_reducible repeat (first | refine blk_drewN ?_ _ | refine blk_drew ?_ | refine blk_alloc ?_ _)); exact BK241.out) Try.underlying23 rfl (by kernel_rfl)) rfl ?_
                  exact ⟨by first | rfl | (simp [errW_none, errW_some] <;> rfl) | (simp [*, errW_none, errW_some] <;> rfl), by repeat (first | (with_reducible first | exact HB.out | apply below_alloc | apply pw_below_drewN | apply below_drew1 | refine below_set ?_ GE241.out | refine below_set ?_ GE245.out) | exact HB.out)⟩
                · rw [if_neg c16] at H
                  have c16b0 : decide (t249 < 0) = false := decide_eq_false c16
                  clear c16
                  by_cases c19 : 0 ≤ x7_2
                  · rw [if_pos c19] at H
                    have c19b0 : decide (0 ≤ x7_2) = true := decide_eq_true c19
                    clear c19
                    replace H := Option.bind_eq_some_iff.mp H
                    obtain ⟨⟨t250, t251, t252, t253, t254, t255, t256, t257⟩, A210, H⟩ := H
                    replace H : (novationref4_ReadEvent.l0 k2 l0 t249 t246 (wrap64 (x7_2 + 1)) t250 t251 t252 t253 t254 t255 t256 t257) = some (r1, r2, r3, r4, r5, r6, r7, r8, r9) := H
                    have A21 := Aside0.mk A210
                    clear A210
                    have H' := Aside0.mk H
                    clear H
                    try go_wp2_with (first | ((with_reducible refine gate_callee (f := 42) rfl ?_); refine goesL_ (some 39) rfl rfl Try.func42 (by kernel_rfl) rfl #[.slice (some ad244) l0.length c0, .int .i64 x5_2] rfl (by (try simp only [List.map_toArray, List.map_cons, List.map_nil]); first | done | rfl | (simp only [List.length_drop, List.length_take]; rfl)) ?_; (with_reducible refine (novationref4_number.calls k2 _ _ l0 x5_2 t248 t249 _ ?side1 ?side2 A15.out).mono ?_); (case side1 => repeat (first | exact (Kd.C_below HR0.out HB.out) | (with_reducible refine Kd.C_alloc ?_ _) | (with_reducible refine Kd.C_drewN ?_ _) | (with_reducible refine Kd.C_drew ?_))); (case side2 => exact HC0.out); rintro e w' ⟨rfl, ⟨nd, rfl⟩⟩; refine ⟨_, rfl, ?_⟩; (try (rw [drewN_self wr]; generalize hq_ : World.drewN wr _ = wr; have n0_ : Aside0 (wr.heap[gb241]? = some (.cells #[.int .i64 x242000_2, .int .i64 x242001_2, .int .i64 x242002_2, .int .i64 x242003_2, .int .i64 x242004_2, .int .i64 x242005_2, .int .i64 x242006_2, .int .i64 x242007_2] 23 (0, 0))) := ⟨by rw [← hq_]; exact (by (with_reducible repeat (first | refine blk_drewN ?_ _ | refine blk_drew ?_ | refine blk_alloc ?_ _)); exact BK241.out)⟩; have n1_ : Aside0 (wr.heap[gb245]? = some (.cells #[.int .i64 x246000_2, .int .i64 x246001_2, .int .i64 x246002_2, .int .i64 x246003_2, .int .i64 x246004_2, .int .i64 x246005_2, .int .i64 x246006_2, .int .i64 x246007_2] 23 (0, 0))) := ⟨by rw [← hq_]; exact (by (with_reducible repeat (first | refine blk_drewN ?_ _ | refine blk_drew ?_ | refine blk_alloc ?_ _)); exact BK245.out)⟩; have n2_ : Aside0 (Below w.heap.size w wr) := ⟨by rw [← hq_]; exact (by repeat (first | (with_reducible first | exact HB.out | apply below_alloc | apply pw_below_drewN | apply below_drew1 | refine below_set ?_ GE241.out | refine below_set ?_ GE245.out) | exact HB.out))⟩; clear BK241 BK245 HB hq_; have BK241 := n0_; have BK245 := n1_; have HB := n2_; clear n0_ n1_ n2_))))
                    have n0_ := Aside0.mk (blk_drew BK241.out)
                    have n1_ := Aside0.mk (blk_drew BK245.out)
                    have n2_ := Aside0.mk (below_drew1 HB.out)
                    clear BK241
                    clear BK245
                    clear HB
                    have BK241 := n0_
                    have BK245 := n1_
                    have HB := n2_
                    clear n0_ n1_ n2_
                    have p20 : 0 ≤ (x7_2 : Int) := of_decide_eq_true (by first | (with_reducible assumption) | assumption)
                    have q20 : x7_2 < (t246.size : Int) := of_decide_eq_true (by first | (with_reducible assumption) | assumption)
                    have hx20 := bt_at t246 x7_2
                    replace p20 := eq_true p20
                    replace q20 := eq_true q20
                    refine start_ (n := 9) (S := fun w' => w'.cell? ⟨gb245, 0, none⟩ = some (.int .i64 x246000_2) ∧ w'.cell? ⟨gb245, 1, none⟩ = some (.int .i64 x246001_2) ∧ w'.cell? ⟨gb245, 2, none⟩ = some (.int .i64 x246002_2) ∧ w'.cell? ⟨gb245, 3, none⟩ = some (.int .i64 x246003_2) ∧ w'.cell? ⟨gb245, 4, none⟩ = some (.int .i64 x246004_2) ∧ w'.cell? ⟨gb245, 5, none⟩ = some (.int .i64 x246005_2) ∧ w'.cell? ⟨gb245, 6, none⟩ = some (.int .i64 x246006_2) ∧ w'.cell? ⟨gb245, 7, none⟩ = some (.int .i64 x246007_2)) (ds := [7]) #[false, false, false, false, false, false, false, false, false] (by kernel_rfl) rfl rfl ⟨(blk_cell BK245.out 0).trans rfl, (blk_cell BK245.out 1).trans rfl, (blk_cell BK245.out 2).trans rfl, (blk_cell BK245.out 3).trans rfl, (blk_cell BK245.out 4).trans rfl, (blk_cell BK245.out 5).trans rfl, (blk_cell BK245.out 6).trans rfl, (blk_cell BK245.out 7).trans rfl⟩ (fun hHeld => ?_); refine with_tabW novationref4_ReadEvent.tab11 novationref4_ReadEvent.bits11 (fun HT_ HW_ => ?_)
                    generalize wr.drew = w22 at BK241 BK245 HB hHeld ⊢
                    refine pure_ (i := 1) (N := some 46) (v := ?_) (a' := ?_) #[false, true, false, false, false, false, false, false, false] rfl rfl (any_of HT_.out (by kernel_rfl)) (fun _ _ _ h => h) (Or.inl ⟨by rfl, ?_⟩) ?_ ?_
                    rotate_left
                    · intro w'
                      go_simp
                      with_reducible rfl
                    rotate_left
                    · simp only [Act.put, List.setIfInBounds_toArray, List.set_cons_zero, List.set_cons_succ, i64_w, i32_w]
                      rfl
                    refine pure_ (i := 2) (N := some 47) (v := ?_) (a' := ?_) #[false, true, true, false, false, false, false, false, false] rfl rfl (any_of HT_.out (by kernel_rfl)) (fun _ _ _ h => h) (Or.inl ⟨by rfl, ?_⟩) ?_ ?_
                    rotate_left
                    · intro w'
                      go_simp
                      with_reducible rfl
                    rotate_left
                    · simp only [Act.put, List.setIfInBounds_toArray, List.set_cons_zero, List.set_cons_succ, i64_w, i32_w]
                      rfl
                    refine pure_ (i := 4) (N := some 49) (v := ?_) (a' := ?_) #[false, true, true, false, true, false, false, false, false] rfl rfl (any_of HT_.out (by kernel_rfl)) (fun _ _ _ h => h) (Or.inl ⟨by rfl, ?_⟩) ?_ ?_
                    rotate_left
                    · intro w'
                      go_simp
                      with_reducible rfl
                    rotate_left
                    · simp only [Act.put, List.setIfInBounds_toArray, List.set_cons_zero, List.set_cons_succ, i64_w, i32_w]
                      rfl
                    refine pure_ (i := 6) (N := some 51) (v := ?_) (a' := ?_) #[false, true, true, false, true, false, true, false, false] rfl rfl (any_of HT_.out (by kernel_rfl)) (fun _ _ _ h => h) (Or.inl ⟨by rfl, ?_⟩) ?_ ?_
                    rotate_left
                    · intro w'
                      go_simp
                      with_reducible rfl
                    rotate_left
                    · simp only [Act.put, List.setIfInBounds_toArray, List.set_cons_zero, List.set_cons_succ, i64_w, i32_w]
                      rfl
                    refine take_ (i := 0) (N := some 45) (v := ?_) (a' := ?_) #[true, true, true, false, true, false, true, false, false] rfl rfl (take_ofW HT_.out HW_.out (by kernel_rfl)) (fun _ _ _ h => h) (Or.inl ⟨by rfl, ?_⟩) hHeld ?_ ?_
                    rotate_left
                    · rintro w' ⟨s0, s1, s2, s3, s4, s5, s6, s7⟩
                      go_simp
                      with_reducible rfl
                    rotate_left
                    · simp only [Act.put, List.setIfInBounds_toArray, List.set_cons_zero, List.set_cons_succ, i64_w, i32_w]
                      rfl
                    refine take_ (i := 3) (N := some 48) (v := ?_) (a' := ?_) #[true, true, true, true, true, false, true, false, false] rfl rfl (take_ofW HT_.out HW_.out (by kernel_rfl)) (fun _ _ _ h => h) (Or.inl ⟨by rfl, ?_⟩) hHeld ?_ ?_
                    rotate_left
                    · rintro w' ⟨s0, s1, s2, s3, s4, s5, s6, s7⟩
                      go_simp
                      with_reducible rfl
                    rotate_left
                    · simp only [Act.put, List.setIfInBounds_toArray, List.set_cons_zero, List.set_cons_succ, i64_w, i32_w]
                      rfl
                    refine one_ (i := 5) (N := some 50) #[true, true, true, true, true, true, true, false, false] rfl rfl (one_of HT_.out (by kernel_rfl)) (by decide) (fun K hK => ?_)
                    refine goes_ Try.func30 (by kernel_rfl) rfl #[.agg #[.int .i64 x246000_2, .int .i64 x246001_2, .int .i64 x246002_2, .int .i64 x246003_2, .int .i64 x246004_2, .int .i64 x246005_2, .int .i64 x246006_2, .int .i64 x246007_2], .int .u8 (bt t246 x7_2), .int .i64 t248] (by rfl) rfl rfl (by (try simp only [List.map_toArray, List.map_cons, List.map_nil]); first | done | rfl | (simp only [List.length_drop, List.length_take]; rfl)) ?_
                    with_reducible refine (novationref4_with.calls x246000_2 x246001_2 x246002_2 x246003_2 x246004_2 x246005_2 x246006_2 x246007_2 (bt t246 x7_2) t248 t250 t251 t252 t253 t254 t255 t256 t257 _ A21.out).mono ?_
                    rintro e w23 ⟨rfl, hb⟩
                    refine ⟨_, rfl, ?_⟩
                    have n0_ := Aside0.mk (blk_below (g := gb241) (o := .cells #[.int .i64 x242000_2, .int .i64 x242001_2, .int .i64 x242002_2, .int .i64 x242003_2, .int .i64 x242004_2, .int .i64 x242005_2, .int .i64 x242006_2, .int .i64 x242007_2] 23 (0, 0)) (by (with_reducible repeat (first | refine blk_drewN ?_ _ | refine blk_drew ?_ | refine blk_alloc ?_ _)); exact BK241.out) hb)
                    have n1_ := Aside0.mk (blk_below (g := gb245) (o := .cells #[.int .i64 x246000_2, .int .i64 x246001_2, .int .i64 x246002_2, .int .i64 x246003_2, .int .i64 x246004_2, .int .i64 x246005_2, .int .i64 x246006_2, .int .i64 x246007_2] 23 (0, 0)) (by (with_reducible repeat (first | refine blk_drewN ?_ _ | refine blk_drew ?_ | refine blk_alloc ?_ _)); exact BK245.out) hb)
                    have n2_ := Aside0.mk (below_step (by repeat (first | (with_reducible first | exact HB.out | apply below_alloc | apply pw_below_drewN | apply below_drew1 | refine below_set ?_ GE241.out | refine below_set ?_ GE245.out) | exact HB.out)) hb)
                    clear BK241
                    clear BK245
                    clear HB
                    have BK241 := n0_
                    have BK245 := n1_
                    have HB := n2_
                    clear n0_ n1_ n2_
                    (try clear hb)
                    (try clear hb2)
                    (try clear hk)
                    (try clear hi)
                    refine hK.out _ _ ⟨(blk_cell BK245.out 0).trans rfl, (blk_cell BK245.out 1).trans rfl, (blk_cell BK245.out 2).trans rfl, (blk_cell BK245.out 3).trans rfl, (blk_cell BK245.out 4).trans rfl, (blk_cell BK245.out 5).trans rfl, (blk_cell BK245.out 6).trans rfl, (blk_cell BK245.out 7).trans rfl⟩ (fun hHeld => ?_)
                    clear hK K
                    refine norm_ (a' := ?_) ?_ ?_
                    rotate_left
                    · show Act.put _ (some 50) _ = _
                      simp only [Act.put, List.setIfInBounds_toArray, List.set_cons_zero, List.set_cons_succ, i64_w, i32_w]
                      rfl
                    refine last_ (i := 7) (N := none) #[true, true, true, true, true, true, true, true, false] rfl rfl (one_of HT_.out (by kernel_rfl)) (by decide) (fun K hK => ?_)
                    have hs24 : w23.cell? ⟨gb245, 0, none⟩ = some (.int .i64 x246000_2) := (blk_cell BK245.out 0).trans rfl
                    have hfs24 := blk_frozen BK245.out 0
                    have hns24_0 := NB241_245.out
                    have hms24_0 := NB245_241.out
                    have hs25 : w23.cell? ⟨gb245, 1, none⟩ = some (.int .i64 x246001_2) := (blk_cell BK245.out 1).trans rfl
                    have hfs25 := blk_frozen BK245.out 1
                    have hns25_0 := NB241_245.out
                    have hms25_0 := NB245_241.out
                    have hs26 : w23.cell? ⟨gb245, 2, none⟩ = some (.int .i64 x246002_2) := (blk_cell BK245.out 2).trans rfl
                    have hfs26 := blk_frozen BK245.out 2
                    have hns26_0 := NB241_245.out
                    have hms26_0 := NB245_241.out
                    have hs27 : w23.cell? ⟨gb245, 3, none⟩ = some (.int .i64 x246003_2) := (blk_cell BK245.out 3).trans rfl
                    have hfs27 := blk_frozen BK245.out 3
                    have hns27_0 := NB241_245.out
                    have hms27_0 := NB245_241.out
                    have hs28 : w23.cell? ⟨gb245, 4, none⟩ = some (.int .i64 x246004_2) := (blk_cell BK245.out 4).trans rfl
                    have hfs28 := blk_frozen BK245.out 4
                    have hns28_0 := NB241_245.out
                    have hms28_0 := NB245_241.out
                    have hs29 : w23.cell? ⟨gb245, 5, none⟩ = some (.int .i64 x246005_2) := (blk_cell BK245.out 5).trans rfl
                    have hfs29 := blk_frozen BK245.out 5
                    have hns29_0 := NB241_245.out
                    have hms29_0 := NB245_241.out
                    have hs30 : w23.cell? ⟨gb245, 6, none⟩ = some (.int .i64 x246006_2) := (blk_cell BK245.out 6).trans rfl
                    have hfs30 := blk_frozen BK245.out 6
                    have hns30_0 := NB241_245.out
                    have hms30_0 := NB245_241.out
                    have hs31 : w23.cell? ⟨gb245, 7, none⟩ = some (.int .i64 x246007_2) := (blk_cell BK245.out 7).trans rfl
                    have hfs31 := blk_frozen BK245.out 7
                    have hns31_0 := NB241_245.out
                    have hms31_0 := NB245_241.out
                    refine skip_ (w1 := ?_) (by rfl) rfl ?_ ?_
                    rotate_left
                    · go_simp
                      rfl
                    refine hK.out _ _ ?_
                    clear hK K
                    refine pure_ (i := 8) (N := some 5) (v := ?_) (a' := ?_) #[true, true, true, true, true, true, true, true, true] rfl rfl (any_of HT_.out (by kernel_rfl)) (fun _ _ _ h => h) (Or.inl ⟨by rfl, ?_⟩) ?_ ?_
                    rotate_left
                    · intro w'
                      go_simp
                      with_reducible rfl
                    rotate_left
                    · simp only [Act.put, List.setIfInBounds_toArray, List.set_cons_zero, List.set_cons_succ, i64_w, i32_w]
                      rfl
                    refine done_ (done_of HT_.out (by kernel_rfl)) ?_
                    try go_wp2
                    go_roundg k2
                    case measure => have := HJ1.out; have := HK2.out; omega
                    case rel => exact ⟨(t249), (wrap64 (x7_2 + 1)), (x242000_2), (x242001_2), (x242002_2), (x242003_2), (x242004_2), (x242005_2), (x242006_2), (x242007_2), (t250), (t251), (t252), (t253), (t254), (t255), (t256), (t257), (by first | rfl | (simp; done) | (simp [*]; done)), (by first | rfl | (simp; done) | (simp [*]; done)), H', ⟨by have := HJ1.out; have := HK2.out; omega⟩, ⟨by (with_reducible repeat (first | refine blk_drewN ?_ _ | refine blk_drew ?_ | refine blk_alloc ?_ _)); refine blk_far ?_ NB241_245.out _; (with_reducible repeat (first | refine blk_drewN ?_ _ | refine blk_drew ?_ | refine blk_alloc ?_ _)); refine blk_far ?_ NB241_245.out _; (with_reducible repeat (first | refine blk_drewN ?_ _ | refine blk_drew ?_ | refine blk_alloc ?_ _)); refine blk_far ?_ NB241_245.out _; (with_reducible repeat (first | refine blk_drewN ?_ _ | refine blk_drew ?_ | refine blk_alloc ?_ _)); refine blk_far ?_ NB241_245.out _; (with_reducible repeat (first | refine blk_drewN ?_ _ | refine blk_drew ?_ | refine blk_alloc ?_ _)); refine blk_far ?_ NB241_245.out _; (with_reducible repeat (first | refine blk_drewN ?_ _ | refine blk_drew ?_ | refine blk_alloc ?_ _)); refine blk_far ?_ NB241_245.out _; (with_reducible repeat (first | refine blk_drewN ?_ _ | refine blk_drew ?_ | refine blk_alloc ?_ _)); refine blk_far ?_ NB241_245.out _; (with_reducible repeat (first | refine blk_drewN ?_ _ | refine blk_drew ?_ | refine blk_alloc ?_ _)); refine blk_far ?_ NB241_245.out _; (with_reducible repeat (first | refine blk_drewN ?_ _ | refine blk_drew ?_ | refine blk_alloc ?_ _)); exact BK241.out⟩, ⟨by (with_reducible repeat (first | refine blk_drewN ?_ _ | refine blk_drew ?_ | refine blk_alloc ?_ _)); refine blk_put (cs := #[.int .i64 t250, .int .i64 t251, .int .i64 t252, .int .i64 t253, .int .i64 t254, .int .i64 t255, .int .i64 t256, .int .i64 x246007_2]) ?_ 7 _ rfl; (with_reducible repeat (first | refine blk_drewN ?_ _ | refine blk_drew ?_ | refine blk_alloc ?_ _)); refine blk_put (cs := #[.int .i64 t250, .int .i64 t251, .int .i64 t252, .int .i64 t253, .int .i64 t254, .int .i64 t255, .int .i64 x246006_2, .int .i64 x246007_2]) ?_ 6 _ rfl; (with_reducible repeat (first | refine blk_drewN ?_ _ | refine blk_drew ?_ | refine blk_alloc ?_ _)); refine blk_put (cs := #[.int .i64 t250, .int .i64 t251, .int .i64 t252, .int .i64 t253, .int .i64 t254, .int .i64 x246005_2, .int .i64 x246006_2, .int .i64 x246007_2]) ?_ 5 _ rfl; (with_reducible repeat (first | refine blk_drewN ?_ _ | refine blk_drew ?_ | refine blk_alloc ?_ _)); refine blk_put (cs := #[.int .i64 t250, .int .i64 t251, .int .i64 t252, .int .i64 t253, .int .i64 x246004_2, .int .i64 x246005_2, .int .i64 x246006_2, .int .i64 x246007_2]) ?_ 4 _ rfl; (with_reducible repeat (first | refine blk_drewN ?_ _ | refine blk_drew ?_ | refine blk_alloc ?_ _)); refine blk_put (cs := #[.int .i64 t250, .int .i64 t251, .int .i64 t252, .int .i64 x246003_2, .int .i64 x246004_2, .int .i64 x246005_2, .int .i64 x246006_2, .int .i64 x246007_2]) ?_ 3 _ rfl; (with_reducible repeat (first | refine blk_drewN ?_ _ | refine blk_drew ?_ | refine blk_alloc ?_ _)); refine blk_put (cs := #[.int .i64 t250, .int .i64 t251, .int .i64 x246002_2, .int .i64 x246003_2, .int .i64 x246004_2, .int .i64 x246005_2, .int .i64 x246006_2, .int .i64 x246007_2]) ?_ 2 _ rfl; (with_reducible repeat (first | refine blk_drewN ?_ _ | refine blk_drew ?_ | refine blk_alloc ?_ _)); refine blk_put (cs := #[.int .i64 t250, .int .i64 x246001_2, .int .i64 x246002_2, .int .i64 x246003_2, .int .i64 x246004_2, .int .i64 x246005_2, .int .i64 x246006_2, .int .i64 x246007_2]) ?_ 1 _ rfl; (with_reducible repeat (first | refine blk_drewN ?_ _ | refine blk_drew ?_ | refine blk_alloc ?_ _)); refine blk_put (cs := #[.int .i64 x246000_2, .int .i64 x246001_2, .int .i64 x246002_2, .int .i64 x246003_2, .int .i64 x246004_2, .int .i64 x246005_2, .int .i64 x246006_2, .int .i64 x246007_2]) ?_ 0 _ rfl; (with_reducible repeat (first | refine blk_drewN ?_ _ | refine blk_drew ?_ | refine blk_alloc ?_ _)); exact BK245.out⟩, ⟨by repeat (first | (with_reducible first | exact HB.out | apply below_alloc | apply pw_below_drewN | apply below_drew1 | refine below_set ?_ GE241.out | refine below_set ?_ GE245.out) | exact HB.out)⟩⟩
                  · rw [if_neg c19] at H
                    exact absurd H (by simp)
              · rw [if_neg c14] at H
                have c14b0 : decide (x7_2 < (t246.size : Int)) = false := decide_eq_false c14
                clear c14
                by_cases c32 : x5_2 = (l0.length : Int)
                · rw [if_pos c32] at H
                  have c32b0 : (x5_2 == (l0.length : Int)) = true := beq_iff_eq.mpr c32
                  have c32b1 : (x5_2 != (l0.length : Int)) = false := bne_eq_false_iff_eq.mpr c32
                  clear c32
                  replace H := Option.bind_eq_some_iff.mp H
                  obtain ⟨t247, A330, H⟩ := H
                  replace H : (if t247 = true then (some (x246000_2, x246001_2, x246002_2, x246003_2, x246004_2, x246005_2, x246006_2, x246007_2, 0)) else (some (0, 0, 0, 0, 0, 0, 0, 0, 13))) = some (r1, r2, r3, r4, r5, r6, r7, r8, r9) := H
                  have A33 := Aside0.mk A330
                  clear A330
                  by_cases c34 : t247 = true
                  · subst c34
                    have H1 : (some (x246000_2, x246001_2, x246002_2, x246003_2, x246004_2, x246005_2, x246006_2, x246007_2, 0)) = some (r1, r2, r3, r4, r5, r6, r7, r8, r9) := by rw [if_pos rfl] at H; exact H
                    clear H
                    have H := H1
                    clear H1
                    simp only [Option.some.injEq, Prod.mk.injEq] at H
                    obtain ⟨rfl, rfl, rfl, rfl, rfl, rfl, rfl, rfl, rfl⟩ := H
                    have hnb35 := NB245_241.out
                    have hnc35 := NB241_245.out
                    have hcz36_0 : wr.cell? ⟨gb245, 0, none⟩ = some (.int .i64 x246000_2) := (blk_cell BK245.out 0).trans rfl
                    have hcz36_1 : wr.cell? ⟨gb245, 1, none⟩ = some (.int .i64 x246001_2) := (blk_cell BK245.out 1).trans rfl
                    have hcz36_2 : wr.cell? ⟨gb245, 2, none⟩ = some (.int .i64 x246002_2) := (blk_cell BK245.out 2).trans rfl
                    have hcz36_3 : wr.cell? ⟨gb245, 3, none⟩ = some (.int .i64 x246003_2) := (blk_cell BK245.out 3).trans rfl
                    have hcz36_4 : wr.cell? ⟨gb245, 4, none⟩ = some (.int .i64 x246004_2) := (blk_cell BK245.out 4).trans rfl
                    have hcz36_5 : wr.cell? ⟨gb245, 5, none⟩ = some (.int .i64 x246005_2) := (blk_cell BK245.out 5).trans rfl
                    have hcz36_6 : wr.cell? ⟨gb245, 6, none⟩ = some (.int .i64 x246006_2) := (blk_cell BK245.out 6).trans rfl
                    have hcz36_7 : wr.cell? ⟨gb245, 7, none⟩ = some (.int .i64 x246007_2) := (blk_cell BK245.out 7).trans rfl
                    have hfz36_0 := blk_frozen BK245.out 0
                    have hfz36_1 := blk_frozen BK245.out 1
                    have hfz36_2 := blk_frozen BK245.out 2
                    have hfz36_3 := blk_frozen BK245.out 3
                    have hfz36_4 := blk_frozen BK245.out 4
                    have hfz36_5 := blk_frozen BK245.out 5
                    have hfz36_6 := blk_frozen BK245.out 6
                    have hfz36_7 := blk_frozen BK245.out 7
                    go_wp2_with (first | (go_at_call 13; (with_reducible refine (novationref4_Right.calls k2 x246000_2 x246001_2 x246002_2 x246003_2 x246004_2 x246005_2 x246006_2 x246007_2 true _ A33.out).mono ?_); rintro e w37 ⟨rfl, hb⟩; have n0_ := Aside0.mk (blk_below (g := gb241) (o := .cells #[.int .i64 x242000_2, .int .i64 x242001_2, .int .i64 x242002_2, .int .i64 x242003_2, .int .i64 x242004_2, .int .i64 x242005_2, .int .i64 x242006_2, .int .i64 x242007_2] 23 (0, 0)) (by (with_reducible repeat (first | refine blk_drewN ?_ _ | refine blk_drew ?_ | refine blk_alloc ?_ _)); exact BK241.out) hb); have n1_ := Aside0.mk (blk_below (g := gb245) (o := .cells #[.int .i64 x246000_2, .int .i64 x246001_2, .int .i64 x246002_2, .int .i64 x246003_2, .int .i64 x246004_2, .int .i64 x246005_2, .int .i64 x246006_2, .int .i64 x246007_2] 23 (0, 0)) (by (with_reducible repeat (first | refine blk_drewN ?_ _ | refine blk_drew ?_ | refine blk_alloc ?_ _)); exact BK245.out) hb); have n2_ := Aside0.mk (below_step (by repeat (first | (with_reducible first | exact HB.out | apply below_alloc | apply pw_below_drewN | apply below_drew1 | refine below_set ?_ GE241.out | refine below_set ?_ GE245.out) | exact HB.out)) hb); clear BK241; clear BK245; clear HB; have BK241 := n0_; have BK245 := n1_; have HB := n2_; clear n0_ n1_ n2_; (try clear hb); (try clear hb2); (try clear hk); (try clear hi); have hcz38_0 : w37.cell? ⟨gb245, 0, none⟩ = some (.int .i64 x246000_2) := (blk_cell BK245.out 0).trans rfl; have hcz38_1 : w37.cell? ⟨gb245, 1, none⟩ = some (.int .i64 x246001_2) := (blk_cell BK245.out 1).trans rfl; have hcz38_2 : w37.cell? ⟨gb245, 2, none⟩ = some (.int .i64 x246002_2) := (blk_cell BK245.out 2).trans rfl; have hcz38_3 : w37.cell? ⟨gb245, 3, none⟩ = some (.int .i64 x246003_2) := (blk_cell BK245.out 3).trans rfl; have hcz38_4 : w37.cell? ⟨gb245, 4, none⟩ = some (.int .i64 x246004_2) := (blk_cell BK245.out 4).trans rfl; have hcz38_5 : w37.cell? ⟨gb245, 5, none⟩ = some (.int .i64 x246005_2) := (blk_cell BK245.out 5).trans rfl; have hcz38_6 : w37.cell? ⟨gb245, 6, none⟩ = some (.int .i64 x246006_2) := (blk_cell BK245.out 6).trans rfl; have hcz38_7 : w37.cell? ⟨gb245, 7, none⟩ = some (.int .i64 x246007_2) := (blk_cell BK245.out 7).trans rfl; have hfz38_0 := blk_frozen BK245.out 0; have hfz38_1 := blk_frozen BK245.out 1; have hfz38_2 := blk_frozen BK245.out 2; have hfz38_3 := blk_frozen BK245.out 3; have hfz38_4 := blk_frozen BK245.out 4; have hfz38_5 := blk_frozen BK245.out 5; have hfz38_6 := blk_frozen BK245.out 6; have hfz38_7 := blk_frozen BK245.out 7; have hcz39_0 : w37.cell? ⟨gb241, 0, none⟩ = some (.int .i64 x242000_2) := (blk_cell BK241.out 0).trans rfl; have hcz39_1 : w37.cell? ⟨gb241, 1, none⟩ = some (.int .i64 x242001_2) := (blk_cell BK241.out 1).trans rfl; have hcz39_2 : w37.cell? ⟨gb241, 2, none⟩ = some (.int .i64 x242002_2) := (blk_cell BK241.out 2).trans rfl; have hcz39_3 : w37.cell? ⟨gb241, 3, none⟩ = some (.int .i64 x242003_2) := (blk_cell BK241.out 3).trans rfl; have hcz39_4 : w37.cell? ⟨gb241, 4, none⟩ = some (.int .i64 x242004_2) := (blk_cell BK241.out 4).trans rfl; have hcz39_5 : w37.cell? ⟨gb241, 5, none⟩ = some (.int .i64 x242005_2) := (blk_cell BK241.out 5).trans rfl; have hcz39_6 : w37.cell? ⟨gb241, 6, none⟩ = some (.int .i64 x242006_2) := (blk_cell BK241.out 6).trans rfl; have hcz39_7 : w37.cell? ⟨gb241, 7, none⟩ = some (.int .i64 x242007_2) := (blk_cell BK241.out 7).trans rfl; have hfz39_0 := blk_frozen BK241.out 0; have hfz39_1 := blk_frozen BK241.out 1; have hfz39_2 := blk_frozen BK241.out 2; have hfz39_3 := blk_frozen BK241.out 3; have hfz39_4 := blk_frozen BK241.out 4; have hfz39_5 := blk_frozen BK241.out 5; have hfz39_6 := blk_frozen BK241.out 6; have hfz39_7 := blk_frozen BK241.out 7))
                    refine bodyPost_ret (results_ct rfl _ _ gb241 23 #[.int .i64 x246000_2, .int .i64 x246001_2, .int .i64 x246002_2, .int .i64 x246003_2, .int .i64 x246004_2, .int .i64 x246005_2, .int .i64 x246006_2, .int .i64 x246007_2] (0, 0) _ rfl (by (with_reducible repeat (first | refine blk_drewN ?_ _ | refine blk_drew ?_ | refine blk_alloc ?_ _)); refine blk_put (cs := #[.int .i64 x246000_2, .int .i64 x246001_2, .int .i64 x246002_2, .int .i64 x246003_2, .int .i64 x246004_2, .int .i64 x246005_2, .int .i64 x246006_2, .int .i64 x242007_2]) ?_ 7 _ rfl; (with_reducible repeat (first | refine blk_drewN ?_ _ | refine blk_drew ?_ | refine blk_alloc ?_ _)); refine blk_put (cs := #[.int .i64 x246000_2, .int .i64 x246001_2, .int .i64 x246002_2, .int .i64 x246003_2, .int .i64 x246004_2, .int .i64 x246005_2, .int .i64 x242006_2, .int .i64 x242007_2]) ?_ 6 _ rfl; (with_reducible repeat (first | refine blk_drewN ?_ _ | refine blk_drew ?_ | refine blk_alloc ?_ _)); refine blk_put (cs := #[.int .i64 x246000_2, .int .i64 x246001_2, .int .i64 x246002_2, .int .i64 x246003_2, .int .i64 x246004_2, .int .i64 x242005_2, .int .i64 x242006_2, .int .i64 x242007_2]) ?_ 5 _ rfl; (with_reducible repeat (first | refine blk_drewN ?_ _ | refine blk_drew ?_ | refine blk_alloc ?_ _)); refine blk_put (cs := #[.int .i64 x246000_2, .int .i64 x246001_2, .int .i64 x246002_2, .int .i64 x246003_2, .int .i64 x242004_2, .int .i64 x242005_2, .int .i64 x242006_2, .int .i64 x242007_2]) ?_ 4 _ rfl; (with_reducible repeat (first | refine blk_drewN ?_ _ | refine blk_drew ?_ | refine blk_alloc ?_ _)); refine blk_put (cs := #[.int .i64 x246000_2, .int .i64 x246001_2, .int .i64 x246002_2, .int .i64 x242003_2, .int .i64 x242004_2, .int .i64 x242005_2, .int .i64 x242006_2, .int .i64 x242007_2]) ?_ 3 _ rfl; (with_reducible repeat (first | refine blk_drewN ?_ _ | refine blk_drew ?_ | refine blk_alloc ?_ _)); refine blk_put (cs := #[.int .i64 x246000_2, .int .i64 x246001_2, .int .i64 x242002_2, .int .i64 x242003_2, .int .i64 x242004_2, .int .i64 x242005_2, .int .i64 x242006_2, .int .i64 x242007_2]) ?_ 2 _ rfl; (with_reducible repeat (first | refine blk_drewN ?_ _ | refine blk_drew ?_ | refine blk_alloc ?_ _)); refine blk_put (cs := #[.int .i64 x246000_2, .int .i64 x242001_2, .int .i64 x242002_2, .int .i64 x242003_2, .int .i64 x242004_2, .int .i64 x242005_2, .int .i64 x242006_2, .int .i64 x242007_2]) ?_ 1 _ rfl; (with_reducible repeat (first | refine blk_drewN ?_ _ | refine blk_drew ?_ | refine blk_alloc ?_ _)); refine blk_put (cs := #[.int .i64 x242000_2, .int .i64 x242001_2, .int .i64 x242002_2, .int .i64 x242003_2, .int .i64 x242004_2, .int .i64 x242005_2, .int .i64 x242006_2, .int .i64 x242007_2]) ?_ 0 _ rfl; (with_reducible repeat (first | refine blk_drewN ?_ _ | refine blk_drew ?_ | refine blk_alloc ?_ _)); exact BK241.out) Try.underlying23 rfl (by kernel_rfl)) rfl ?_
                    exact ⟨by first | rfl | (simp [errW_none, errW_some] <;> rfl) | (simp [*, errW_none, errW_some] <;> rfl), by repeat (first | (with_reducible first | exact HB.out | apply below_alloc | apply pw_below_drewN | apply below_drew1 | refine below_set ?_ GE241.out | refine below_set ?_ GE245.out) | exact HB.out)⟩
                  · replace c34 := Bool.eq_false_iff.mpr c34
                    subst c34
                    have H1 : (some (0, 0, 0, 0, 0, 0, 0, 0, 13)) = some (r1, r2, r3, r4, r5, r6, r7, r8, r9) := by rw [if_neg (show ¬ (false = true) by decide)] at H; exact H
                    clear H
                    have H := H1
                    clear H1
                    simp only [Option.some.injEq, Prod.mk.injEq] at H
                    obtain ⟨rfl, rfl, rfl, rfl, rfl, rfl, rfl, rfl, rfl⟩ := H
                    have hnb40 := NB245_241.out
                    have hnc40 := NB241_245.out
                    have hcz41_0 : wr.cell? ⟨gb245, 0, none⟩ = some (.int .i64 x246000_2) := (blk_cell BK245.out 0).trans rfl
                    have hcz41_1 : wr.cell? ⟨gb245, 1, none⟩ = some (.int .i64 x246001_2) := (blk_cell BK245.out 1).trans rfl
                    have hcz41_2 : wr.cell? ⟨gb245, 2, none⟩ = some (.int .i64 x246002_2) := (blk_cell BK245.out 2).trans rfl
                    have hcz41_3 : wr.cell? ⟨gb245, 3, none⟩ = some (.int .i64 x246003_2) := (blk_cell BK245.out 3).trans rfl
                    have hcz41_4 : wr.cell? ⟨gb245, 4, none⟩ = some (.int .i64 x246004_2) := (blk_cell BK245.out 4).trans rfl
                    have hcz41_5 : wr.cell? ⟨gb245, 5, none⟩ = some (.int .i64 x246005_2) := (blk_cell BK245.out 5).trans rfl
                    have hcz41_6 : wr.cell? ⟨gb245, 6, none⟩ = some (.int .i64 x246006_2) := (blk_cell BK245.out 6).trans rfl
                    have hcz41_7 : wr.cell? ⟨gb245, 7, none⟩ = some (.int .i64 x246007_2) := (blk_cell BK245.out 7).trans rfl
                    have hfz41_0 := blk_frozen BK245.out 0
                    have hfz41_1 := blk_frozen BK245.out 1
                    have hfz41_2 := blk_frozen BK245.out 2
                    have hfz41_3 := blk_frozen BK245.out 3
                    have hfz41_4 := blk_frozen BK245.out 4
                    have hfz41_5 := blk_frozen BK245.out 5
                    have hfz41_6 := blk_frozen BK245.out 6
                    have hfz41_7 := blk_frozen BK245.out 7
                    go_wp2_with (first | (go_at_call 13; (with_reducible refine (novationref4_Right.calls k2 x246000_2 x246001_2 x246002_2 x246003_2 x246004_2 x246005_2 x246006_2 x246007_2 false _ A33.out).mono ?_); rintro e w42 ⟨rfl, hb⟩; have n0_ := Aside0.mk (blk_below (g := gb241) (o := .cells #[.int .i64 x242000_2, .int .i64 x242001_2, .int .i64 x242002_2, .int .i64 x242003_2, .int .i64 x242004_2, .int .i64 x242005_2, .int .i64 x242006_2, .int .i64 x242007_2] 23 (0, 0)) (by (with_reducible repeat (first | refine blk_drewN ?_ _ | refine blk_drew ?_ | refine blk_alloc ?_ _)); exact BK241.out) hb); have n1_ := Aside0.mk (blk_below (g := gb245) (o := .cells #[.int .i64 x246000_2, .int .i64 x246001_2, .int .i64 x246002_2, .int .i64 x246003_2, .int .i64 x246004_2, .int .i64 x246005_2, .int .i64 x246006_2, .int .i64 x246007_2] 23 (0, 0)) (by (with_reducible repeat (first | refine blk_drewN ?_ _ | refine blk_drew ?_ | refine blk_alloc ?_ _)); exact BK245.out) hb); have n2_ := Aside0.mk (below_step (by repeat (first | (with_reducible first | exact HB.out | apply below_alloc | apply pw_below_drewN | apply below_drew1 | refine below_set ?_ GE241.out | refine below_set ?_ GE245.out) | exact HB.out)) hb); clear BK241; clear BK245; clear HB; have BK241 := n0_; have BK245 := n1_; have HB := n2_; clear n0_ n1_ n2_; (try clear hb); (try clear hb2); (try clear hk); (try clear hi); have hcz43_0 : w42.cell? ⟨gb241, 0, none⟩ = some (.int .i64 x242000_2) := (blk_cell BK241.out 0).trans rfl; have hcz43_1 : w42.cell? ⟨gb241, 1, none⟩ = some (.int .i64 x242001_2) := (blk_cell BK241.out 1).trans rfl; have hcz43_2 : w42.cell? ⟨gb241, 2, none⟩ = some (.int .i64 x242002_2) := (blk_cell BK241.out 2).trans rfl; have hcz43_3 : w42.cell? ⟨gb241, 3, none⟩ = some (.int .i64 x242003_2) := (blk_cell BK241.out 3).trans rfl; have hcz43_4 : w42.cell? ⟨gb241, 4, none⟩ = some (.int .i64 x242004_2) := (blk_cell BK241.out 4).trans rfl; have hcz43_5 : w42.cell? ⟨gb241, 5, none⟩ = some (.int .i64 x242005_2) := (blk_cell BK241.out 5).trans rfl; have hcz43_6 : w42.cell? ⟨gb241, 6, none⟩ = some (.int .i64 x242006_2) := (blk_cell BK241.out 6).trans rfl; have hcz43_7 : w42.cell? ⟨gb241, 7, none⟩ = some (.int .i64 x242007_2) := (blk_cell BK241.out 7).trans rfl; have hfz43_0 := blk_frozen BK241.out 0; have hfz43_1 := blk_frozen BK241.out 1; have hfz43_2 := blk_frozen BK241.out 2; have hfz43_3 := blk_frozen BK241.out 3; have hfz43_4 := blk_frozen BK241.out 4; have hfz43_5 := blk_frozen BK241.out 5; have hfz43_6 := blk_frozen BK241.out 6; have hfz43_7 := blk_frozen BK241.out 7))
                    refine bodyPost_ret (results_ct rfl _ _ gb241 23 #[.int .i64 0, .int .i64 0, .int .i64 0, .int .i64 0, .int .i64 0, .int .i64 0, .int .i64 0, .int .i64 0] (0, 0) _ rfl (by (with_reducible repeat (first | refine blk_drewN ?_ _ | refine blk_drew ?_ | refine blk_alloc ?_ _)); refine blk_put (cs := #[.int .i64 0, .int .i64 0, .int .i64 0, .int .i64 0, .int .i64 0, .int .i64 0, .int .i64 0, .int .i64 x242007_2]) ?_ 7 _ rfl; (with_reducible repeat (first | refine blk_drewN ?_ _ | refine blk_drew ?_ | refine blk_alloc ?_ _)); refine blk_put (cs := #[.int .i64 0, .int .i64 0, .int .i64 0, .int .i64 0, .int .i64 0, .int .i64 0, .int .i64 x242006_2, .int .i64 x242007_2]) ?_ 6 _ rfl; (with_reducible repeat (first | refine blk_drewN ?_ _ | refine blk_drew ?_ | refine blk_alloc ?_ _)); refine blk_put (cs := #[.int .i64 0, .int .i64 0, .int .i64 0, .int .i64 0, .int .i64 0, .int .i64 x242005_2, .int .i64 x242006_2, .int .i64 x242007_2]) ?_ 5 _ rfl; (with_reducible repeat (first | refine blk_drewN ?_ _ | refine blk_drew ?_ | refine blk_alloc ?_ _)); refine blk_put (cs := #[.int .i64 0, .int .i64 0, .int .i64 0, .int .i64 0, .int .i64 x242004_2, .int .i64 x242005_2, .int .i64 x242006_2, .int .i64 x242007_2]) ?_ 4 _ rfl; (with_reducible repeat (first | refine blk_drewN ?_ _ | refine blk_drew ?_ | refine blk_alloc ?_ _)); refine blk_put (cs := #[.int .i64 0, .int .i64 0, .int .i64 0, .int .i64 x242003_2, .int .i64 x242004_2, .int .i64 x242005_2, .int .i64 x242006_2, .int .i64 x242007_2]) ?_ 3 _ rfl; (with_reducible repeat (first | refine blk_drewN ?_ _ | refine blk_drew ?_ | refine blk_alloc ?_ _)); refine blk_put (cs := #[.int .i64 0, .int .i64 0, .int .i64 x242002_2, .int .i64 x242003_2, .int .i64 x242004_2, .int .i64 x242005_2, .int .i64 x242006_2, .int .i64 x242007_2]) ?_ 2 _ rfl; (with_reducible repeat (first | refine blk_drewN ?_ _ | refine blk_drew ?_ | refine blk_alloc ?_ _)); refine blk_put (cs := #[.int .i64 0, .int .i64 x242001_2, .int .i64 x242002_2, .int .i64 x242003_2, .int .i64 x242004_2, .int .i64 x242005_2, .int .i64 x242006_2, .int .i64 x242007_2]) ?_ 1 _ rfl; (with_reducible repeat (first | refine blk_drewN ?_ _ | refine blk_drew ?_ | refine blk_alloc ?_ _)); refine blk_put (cs := #[.int .i64 x242000_2, .int .i64 x242001_2, .int .i64 x242002_2, .int .i64 x242003_2, .int .i64 x242004_2, .int .i64 x242005_2, .int .i64 x242006_2, .int .i64 x242007_2]) ?_ 0 _ rfl; (with_reducible repeat (first | refine blk_drewN ?_ _ | refine blk_drew ?_ | refine blk_alloc ?_ _)); exact BK241.out) Try.underlying23 rfl (by kernel_rfl)) rfl ?_
                    exact ⟨by first | rfl | (simp [errW_none, errW_some] <;> rfl) | (simp [*, errW_none, errW_some] <;> rfl), by repeat (first | (with_reducible first | exact HB.out | apply below_alloc | apply pw_below_drewN | apply below_drew1 | refine below_set ?_ GE241.out | refine below_set ?_ GE245.out) | exact HB.out)⟩
                · rw [if_neg c32] at H
                  have c32b0 : (x5_2 == (l0.length : Int)) = false := beq_eq_false_iff_ne.mpr c32
                  have c32b1 : (x5_2 != (l0.length : Int)) = true := bne_iff_ne.mpr c32
                  simp only [Option.some.injEq, Prod.mk.injEq] at H
                  obtain ⟨rfl, rfl, rfl, rfl, rfl, rfl, rfl, rfl, rfl⟩ := H
                  have hnb44 := NB241_245.out
                  have hnc44 := NB245_241.out
                  have hcz45_0 : wr.cell? ⟨gb241, 0, none⟩ = some (.int .i64 x242000_2) := (blk_cell BK241.out 0).trans rfl
                  have hcz45_1 : wr.cell? ⟨gb241, 1, none⟩ = some (.int .i64 x242001_2) := (blk_cell BK241.out 1).trans rfl
                  have hcz45_2 : wr.cell? ⟨gb241, 2, none⟩ = some (.int .i64 x242002_2) := (blk_cell BK241.out 2).trans rfl
                  have hcz45_3 : wr.cell? ⟨gb241, 3, none⟩ = some (.int .i64 x242003_2) := (blk_cell BK241.out 3).trans rfl
                  have hcz45_4 : wr.cell? ⟨gb241, 4, none⟩ = some (.int .i64 x242004_2) := (blk_cell BK241.out 4).trans rfl
                  have hcz45_5 : wr.cell? ⟨gb241, 5, none⟩ = some (.int .i64 x242005_2) := (blk_cell BK241.out 5).trans rfl
                  have hcz45_6 : wr.cell? ⟨gb241, 6, none⟩ = some (.int .i64 x242006_2) := (blk_cell BK241.out 6).trans rfl
                  have hcz45_7 : wr.cell? ⟨gb241, 7, none⟩ = some (.int .i64 x242007_2) := (blk_cell BK241.out 7).trans rfl
                  have hfz45_0 := blk_frozen BK241.out 0
                  have hfz45_1 := blk_frozen BK241.out 1
                  have hfz45_2 := blk_frozen BK241.out 2
                  have hfz45_3 := blk_frozen BK241.out 3
                  have hfz45_4 := blk_frozen BK241.out 4
                  have hfz45_5 := blk_frozen BK241.out 5
                  have hfz45_6 := blk_frozen BK241.out 6
                  have hfz45_7 := blk_frozen BK241.out 7
                  go_wp2
                  refine bodyPost_ret (results_ct rfl _ _ gb241 23 #[.int .i64 0, .int .i64 0, .int .i64 0, .int .i64 0, .int .i64 0, .int .i64 0, .int .i64 0, .int .i64 0] (0, 0) _ rfl (by (with_reducible repeat (first | refine blk_drewN ?_ _ | refine blk_drew ?_ | refine blk_alloc ?_ _)); refine blk_put (cs := #[.int .i64 0, .int .i64 0, .int .i64 0, .int .i64 0, .int .i64 0, .int .i64 0, .int .i64 0, .int .i64 x242007_2]) ?_ 7 _ rfl; (with_reducible repeat (first | refine blk_drewN ?_ _ | refine blk_drew ?_ | refine blk_alloc ?_ _)); refine blk_put (cs := #[.int .i64 0, .int .i64 0, .int .i64 0, .int .i64 0, .int .i64 0, .int .i64 0, .int .i64 x242006_2, .int .i64 x242007_2]) ?_ 6 _ rfl; (with_reducible repeat (first | refine blk_drewN ?_ _ | refine blk_drew ?_ | refine blk_alloc ?_ _)); refine blk_put (cs := #[.int .i64 0, .int .i64 0, .int .i64 0, .int .i64 0, .int .i64 0, .int .i64 x242005_2, .int .i64 x242006_2, .int .i64 x242007_2]) ?_ 5 _ rfl; (with_reducible repeat (first | refine blk_drewN ?_ _ | refine blk_drew ?_ | refine blk_alloc ?_ _)); refine blk_put (cs := #[.int .i64 0, .int .i64 0, .int .i64 0, .int .i64 0, .int .i64 x242004_2, .int .i64 x242005_2, .int .i64 x242006_2, .int .i64 x242007_2]) ?_ 4 _ rfl; (with_reducible repeat (first | refine blk_drewN ?_ _ | refine blk_drew ?_ | refine blk_alloc ?_ _)); refine blk_put (cs := #[.int .i64 0, .int .i64 0, .int .i64 0, .int .i64 x242003_2, .int .i64 x242004_2, .int .i64 x242005_2, .int .i64 x242006_2, .int .i64 x242007_2]) ?_ 3 _ rfl; (with_reducible repeat (first | refine blk_drewN ?_ _ | refine blk_drew ?_ | refine blk_alloc ?_ _)); refine blk_put (cs := #[.int .i64 0, .int .i64 0, .int .i64 x242002_2, .int .i64 x242003_2, .int .i64 x242004_2, .int .i64 x242005_2, .int .i64 x242006_2, .int .i64 x242007_2]) ?_ 2 _ rfl; (with_reducible repeat (first | refine blk_drewN ?_ _ | refine blk_drew ?_ | refine blk_alloc ?_ _)); refine blk_put (cs := #[.int .i64 0, .int .i64 x242001_2, .int .i64 x242002_2, .int .i64 x242003_2, .int .i64 x242004_2, .int .i64 x242005_2, .int .i64 x242006_2, .int .i64 x242007_2]) ?_ 1 _ rfl; (with_reducible repeat (first | refine blk_drewN ?_ _ | refine blk_drew ?_ | refine blk_alloc ?_ _)); refine blk_put (cs := #[.int .i64 x242000_2, .int .i64 x242001_2, .int .i64 x242002_2, .int .i64 x242003_2, .int .i64 x242004_2, .int .i64 x242005_2, .int .i64 x242006_2, .int .i64 x242007_2]) ?_ 0 _ rfl; (with_reducible repeat (first | refine blk_drewN ?_ _ | refine blk_drew ?_ | refine blk_alloc ?_ _)); exact BK241.out) Try.underlying23 rfl (by kernel_rfl)) rfl ?_
                  exact ⟨by first | rfl | (simp [errW_none, errW_some] <;> rfl) | (simp [*, errW_none, errW_some] <;> rfl), by repeat (first | (with_reducible first | exact HB.out | apply below_alloc | apply pw_below_drewN | apply below_drew1 | refine below_set ?_ GE241.out | refine below_set ?_ GE245.out) | exact HB.out)⟩
        · rw [if_neg c9] at H
          exact absurd H (by simp)

/-! ### novationlaw6_reads: function 19 -/
def novationlaw6_reads.f (k : Nat) (l0 : List Int) : Option (Bool) := (event_Read.f k l0).bind fun bt258 => ((novationref4_ReadEvent.f k l0).bind fun bt268 => (if (bt258.1 == bt268.1 && (bt258.2.1 == bt268.2.1 && (bt258.2.2.1 == bt268.2.2.1 && (bt258.2.2.2.1 == bt268.2.2.2.1 && (bt258.2.2.2.2.1 == bt268.2.2.2.2.1 && (bt258.2.2.2.2.2.1 == bt268.2.2.2.2.2.1 && (bt258.2.2.2.2.2.2.1 == bt268.2.2.2.2.2.2.1 && (bt258.2.2.2.2.2.2.2.1 == bt268.2.2.2.2.2.2.2.1)))))))) = true then (some (bt258.2.2.2.2.2.2.2.2 == bt268.2.2.2.2.2.2.2.2)) else (some false)))
theorem novationlaw6_reads.mono : ∀ a0 k, LeO (novationlaw6_reads.f k a0) (novationlaw6_reads.f (k + 1) a0) := by
  intro a0 k
  unfold novationlaw6_reads.f
  repeat' first
      | (with_reducible exact event_Read.mono _ _)
      | (with_reducible exact novationref4_ReadEvent.mono _ _)
      | (with_reducible exact LeO.refl _)
      | (with_reducible exact LeO.none _)
      | (with_reducible refine LeO.ite ?_ ?_)
      | (with_reducible refine LeO.bind ?_ (fun _ => ?_))
      | exact event_Read.mono _ _
      | exact novationref4_ReadEvent.mono _ _
      | exact LeO.none _
      | refine LeO.ite ?_ ?_
      | refine LeO.bind ?_ (fun _ => ?_)
set_option maxHeartbeats 8000000 in
set_option maxRecDepth 100000 in
theorem novationlaw6_reads.calls (k : Nat) (A0 : Option Addr) (c0 : Nat) (l0 : List Int) (r : Bool) (w : World) (hr0 : Kd.C (Kd.int .u8) w A0 l0.length l0) (hc0 : l0.length ≤ c0) (h : novationlaw6_reads.f k l0 = some r) :
    Calls Try.prog 19 #[.slice A0 l0.length c0] w fun e w' => e = .returned (.bool r) ∧ Below w.heap.size w w' := by
  have hu23 := Try.underlying23
  have HR0 := Aside0.mk hr0
  have HC0 := Aside0.mk hc0
  clear hr0 hc0
  have HB := Aside0.mk (Below.refl w.heap.size w)
  have H : ((event_Read.f k l0).bind fun bt258 => ((novationref4_ReadEvent.f k l0).bind fun bt268 => (if (bt258.1 == bt268.1 && (bt258.2.1 == bt268.2.1 && (bt258.2.2.1 == bt268.2.2.1 && (bt258.2.2.2.1 == bt268.2.2.2.1 && (bt258.2.2.2.2.1 == bt268.2.2.2.2.1 && (bt258.2.2.2.2.2.1 == bt268.2.2.2.2.2.1 && (bt258.2.2.2.2.2.2.1 == bt268.2.2.2.2.2.2.1 && (bt258.2.2.2.2.2.2.2.1 == bt268.2.2.2.2.2.2.2.1)))))))) = true then (some (bt258.2.2.2.2.2.2.2.2 == bt268.2.2.2.2.2.2.2.2)) else (some false)))) = some r := h
  clear h
  replace H := Option.bind_eq_some_iff.mp H
  obtain ⟨⟨t258, t259, t260, t261, t262, t263, t264, t265, t266⟩, A20, H⟩ := H
  replace H : ((novationref4_ReadEvent.f k l0).bind fun bt268 => (if (t258 == bt268.1 && (t259 == bt268.2.1 && (t260 == bt268.2.2.1 && (t261 == bt268.2.2.2.1 && (t262 == bt268.2.2.2.2.1 && (t263 == bt268.2.2.2.2.2.1 && (t264 == bt268.2.2.2.2.2.2.1 && (t265 == bt268.2.2.2.2.2.2.2.1)))))))) = true then (some (t266 == bt268.2.2.2.2.2.2.2.2)) else (some false))) = some r := H
  have A2 := Aside0.mk A20
  clear A20
  replace H := Option.bind_eq_some_iff.mp H
  obtain ⟨⟨t268, t269, t270, t271, t272, t273, t274, t275, t276⟩, A30, H⟩ := H
  replace H : (if (t258 == t268 && (t259 == t269 && (t260 == t270 && (t261 == t271 && (t262 == t272 && (t263 == t273 && (t264 == t274 && (t265 == t275)))))))) = true then (some (t266 == t276)) else (some false)) = some r := H
  have A3 := Aside0.mk A30
  clear A30
  by_cases c4 : (t258 == t268 && (t259 == t269 && (t260 == t270 && (t261 == t271 && (t262 == t272 && (t263 == t273 && (t264 == t274 && (t265 == t275)))))))) = true
  · rw [if_pos c4] at H
    have c4b0 : (t258 == t268 && (t259 == t269 && (t260 == t270 && (t261 == t271 && (t262 == t272 && (t263 == t273 && (t264 == t274 && (t265 == t275)))))))) = true := c4
    (try (have c4b1 : decide (t258 = t268 && (t259 == t269 && (t260 == t270 && (t261 == t271 && (t262 == t272 && (t263 == t273 && (t264 == t274 && (t265 == t275)))))))) = true := by simpa using c4))
    (try (have c4b2 : (t258 == t268 && (t259 == t269 && (t260 == t270 && (t261 == t271 && (t262 == t272 && (t263 == t273 && (t264 == t274 && (t265 == t275)))))))) = true := by simpa using c4))
    clear c4
    obtain rfl := Option.some.inj H
    go_enter Try.func19, Try.ntmps19
    go_wp2_with (first | ((with_reducible refine gate_callee (f := 20) rfl ?_); refine goesL_ (some 9) rfl rfl Try.func20 (by kernel_rfl) rfl #[.slice A0 l0.length c0] rfl (by (try simp only [List.map_toArray, List.map_cons, List.map_nil]); first | done | rfl | (simp only [List.length_drop, List.length_take]; rfl)) ?_; (with_reducible refine (event_Read.calls k _ _ l0 t258 t259 t260 t261 t262 t263 t264 t265 t266 _ ?side1 ?side2 A2.out).mono ?_); (case side1 => repeat (first | exact HR0.out | (with_reducible refine Kd.C_alloc ?_ _) | (with_reducible refine Kd.C_drewN ?_ _) | (with_reducible refine Kd.C_drew ?_))); (case side2 => exact HC0.out); rintro e w5 ⟨rfl, hb⟩; refine ⟨_, rfl, ?_⟩; have n0_ := Aside0.mk (below_step (by repeat (first | (with_reducible first | exact HB.out | apply below_alloc | apply pw_below_drewN | apply below_drew1) | exact HB.out)) hb); clear HB; have HB := n0_; clear n0_; (try clear hb); (try clear hb2); (try clear hk); (try clear hi)) | ((with_reducible refine gate_dst (N := 3) rfl ?_); refine box_event ?hg (N := 3) ?hd (cs := #[.int .i64 0, .int .i64 0, .int .i64 0, .int .i64 0, .int .i64 0, .int .i64 0, .int .i64 0, .int .i64 0]) (t := 23) ?hr ?_; (case hd => rfl); (case hg => rfl); (case hr => first | (go_simp; done) | (go_simp; rfl)); intro gb267 hg w6 hbox hb; have n0_ := Aside0.mk (below_step (by repeat (first | (with_reducible first | exact HB.out | apply below_alloc | apply pw_below_drewN | apply below_drew1) | exact HB.out)) hb); have n1_ := Aside0.mk (hbox); have n2_ := Aside0.mk ((by rw [hg]; exact (below_size (by repeat (first | (with_reducible first | exact HB.out | apply below_alloc | apply pw_below_drewN | apply below_drew1) | exact HB.out))) : w.heap.size ≤ gb267)); have n3_ := Aside0.mk ((by rw [hg]; exact (below_size (by repeat (first | (with_reducible first | exact HB.out | apply below_alloc | apply pw_below_drewN | apply below_drew1) | exact HB.out))) : w.heap.size ≤ gb267)); clear HB; have HB := n0_; have BK267 := n1_; have GW267 := n2_; have GE267 := n3_; clear n0_ n1_ n2_ n3_; clear hb hbox hg; have hcz7_0 : w6.cell? ⟨gb267, 0, none⟩ = some (.int .i64 0) := (blk_cell BK267.out 0).trans rfl; have hcz7_1 : w6.cell? ⟨gb267, 1, none⟩ = some (.int .i64 0) := (blk_cell BK267.out 1).trans rfl; have hcz7_2 : w6.cell? ⟨gb267, 2, none⟩ = some (.int .i64 0) := (blk_cell BK267.out 2).trans rfl; have hcz7_3 : w6.cell? ⟨gb267, 3, none⟩ = some (.int .i64 0) := (blk_cell BK267.out 3).trans rfl; have hcz7_4 : w6.cell? ⟨gb267, 4, none⟩ = some (.int .i64 0) := (blk_cell BK267.out 4).trans rfl; have hcz7_5 : w6.cell? ⟨gb267, 5, none⟩ = some (.int .i64 0) := (blk_cell BK267.out 5).trans rfl; have hcz7_6 : w6.cell? ⟨gb267, 6, none⟩ = some (.int .i64 0) := (blk_cell BK267.out 6).trans rfl; have hcz7_7 : w6.cell? ⟨gb267, 7, none⟩ = some (.int .i64 0) := (blk_cell BK267.out 7).trans rfl; have hfz7_0 := blk_frozen BK267.out 0; have hfz7_1 := blk_frozen BK267.out 1; have hfz7_2 := blk_frozen BK267.out 2; have hfz7_3 := blk_frozen BK267.out 3; have hfz7_4 := blk_frozen BK267.out 4; have hfz7_5 := blk_frozen BK267.out 5; have hfz7_6 := blk_frozen BK267.out 6; have hfz7_7 := blk_frozen BK267.out 7) | ((with_reducible refine gate_callee (f := 36) rfl ?_); refine goesL_ (some 14) rfl rfl Try.func36 (by kernel_rfl) rfl #[.slice A0 l0.length c0] rfl (by (try simp only [List.map_toArray, List.map_cons, List.map_nil]); first | done | rfl | (simp only [List.length_drop, List.length_take]; rfl)) ?_; (with_reducible refine (novationref4_ReadEvent.calls k _ _ l0 t268 t269 t270 t271 t272 t273 t274 t275 t276 _ ?side1 ?side2 A3.out).mono ?_); (case side1 => exact Kd.C_below HR0.out (by repeat (first | (with_reducible first | exact HB.out | apply below_alloc | apply pw_below_drewN | apply below_drew1 | refine below_set ?_ GE267.out) | exact HB.out))); (case side2 => exact HC0.out); rintro e w8 ⟨rfl, hb⟩; refine ⟨_, rfl, ?_⟩; have n0_ := Aside0.mk (blk_below (g := gb267) (o := .cells #[.int .i64 t258, .int .i64 t259, .int .i64 t260, .int .i64 t261, .int .i64 t262, .int .i64 t263, .int .i64 t264, .int .i64 t265] 23 (0, 0)) (by (with_reducible repeat (first | refine blk_drewN ?_ _ | refine blk_drew ?_ | refine blk_alloc ?_ _)); refine blk_put (cs := #[.int .i64 t258, .int .i64 t259, .int .i64 t260, .int .i64 t261, .int .i64 t262, .int .i64 t263, .int .i64 t264, .int .i64 0]) ?_ 7 _ rfl; (with_reducible repeat (first | refine blk_drewN ?_ _ | refine blk_drew ?_ | refine blk_alloc ?_ _)); refine blk_put (cs := #[.int .i64 t258, .int .i64 t259, .int .i64 t260, .int .i64 t261, .int .i64 t262, .int .i64 t263, .int .i64 0, .int .i64 0]) ?_ 6 _ rfl; (with_reducible repeat (first | refine blk_drewN ?_ _ | refine blk_drew ?_ | refine blk_alloc ?_ _)); refine blk_put (cs := #[.int .i64 t258, .int .i64 t259, .int .i64 t260, .int .i64 t261, .int .i64 t262, .int .i64 0, .int .i64 0, .int .i64 0]) ?_ 5 _ rfl; (with_reducible repeat (first | refine blk_drewN ?_ _ | refine blk_drew ?_ | refine blk_alloc ?_ _)); refine blk_put (cs := #[.int .i64 t258, .int .i64 t259, .int .i64 t260, .int .i64 t261, .int .i64 0, .int .i64 0, .int .i64 0, .int .i64 0]) ?_ 4 _ rfl; (with_reducible repeat (first | refine blk_drewN ?_ _ | refine blk_drew ?_ | refine blk_alloc ?_ _)); refine blk_put (cs := #[.int .i64 t258, .int .i64 t259, .int .i64 t260, .int .i64 0, .int .i64 0, .int .i64 0, .int .i64 0, .int .i64 0]) ?_ 3 _ rfl; (with_reducible repeat (first | refine blk_drewN ?_ _ | refine blk_drew ?_ | refine blk_alloc ?_ _)); refine blk_put (cs := #[.int .i64 t258, .int .i64 t259, .int .i64 0, .int .i64 0, .int .i64 0, .int .i64 0, .int .i64 0, .int .i64 0]) ?_ 2 _ rfl; (with_reducible repeat (first | refine blk_drewN ?_ _ | refine blk_drew ?_ | refine blk_alloc ?_ _)); refine blk_put (cs := #[.int .i64 t258, .int .i64 0, .int .i64 0, .int .i64 0, .int .i64 0, .int .i64 0, .int .i64 0, .int .i64 0]) ?_ 1 _ rfl; (with_reducible repeat (first | refine blk_drewN ?_ _ | refine blk_drew ?_ | refine blk_alloc ?_ _)); refine blk_put (cs := #[.int .i64 0, .int .i64 0, .int .i64 0, .int .i64 0, .int .i64 0, .int .i64 0, .int .i64 0, .int .i64 0]) ?_ 0 _ rfl; (with_reducible repeat (first | refine blk_drewN ?_ _ | refine blk_drew ?_ | refine blk_alloc ?_ _)); exact BK267.out) hb); have n1_ := Aside0.mk (below_step (by repeat (first | (with_reducible first | exact HB.out | apply below_alloc | apply pw_below_drewN | apply below_drew1 | refine below_set ?_ GE267.out) | exact HB.out)) hb); clear BK267; clear HB; have BK267 := n0_; have HB := n1_; clear n0_ n1_; (try clear hb); (try clear hb2); (try clear hk); (try clear hi)) | ((with_reducible refine gate_dst (N := 5) rfl ?_); refine box_event ?hg (N := 5) ?hd (cs := #[.int .i64 0, .int .i64 0, .int .i64 0, .int .i64 0, .int .i64 0, .int .i64 0, .int .i64 0, .int .i64 0]) (t := 23) ?hr ?_; (case hd => rfl); (case hg => rfl); (case hr => first | (go_simp; done) | (go_simp; rfl)); intro gb277 hg w9 hbox hb; have n0_ := Aside0.mk (blk_below (g := gb267) (o := .cells #[.int .i64 t258, .int .i64 t259, .int .i64 t260, .int .i64 t261, .int .i64 t262, .int .i64 t263, .int .i64 t264, .int .i64 t265] 23 (0, 0)) (by (with_reducible repeat (first | refine blk_drewN ?_ _ | refine blk_drew ?_ | refine blk_alloc ?_ _)); exact BK267.out) hb); have n1_ := Aside0.mk (below_step (by repeat (first | (with_reducible first | exact HB.out | apply below_alloc | apply pw_below_drewN | apply below_drew1 | refine below_set ?_ GE267.out) | exact HB.out)) hb); have n2_ := Aside0.mk (hbox); have n3_ := Aside0.mk ((by rw [hg]; exact (below_size (by repeat (first | (with_reducible first | exact HB.out | apply below_alloc | apply pw_below_drewN | apply below_drew1 | refine below_set ?_ GE267.out) | exact HB.out))) : w.heap.size ≤ gb277)); have n4_ := Aside0.mk ((by rw [hg]; exact (below_size (by repeat (first | (with_reducible first | exact HB.out | apply below_alloc | apply pw_below_drewN | apply below_drew1 | refine below_set ?_ GE267.out) | exact HB.out))) : w.heap.size ≤ gb277)); have n5_ := Aside0.mk ((by rw [hg]; exact Nat.ne_of_lt (blk_lt (g := gb267) (o := .cells #[.int .i64 t258, .int .i64 t259, .int .i64 t260, .int .i64 t261, .int .i64 t262, .int .i64 t263, .int .i64 t264, .int .i64 t265] 23 (0, 0)) (by (with_reducible repeat (first | refine blk_drewN ?_ _ | refine blk_drew ?_ | refine blk_alloc ?_ _)); exact BK267.out)) : gb267 ≠ gb277)); have n6_ := Aside0.mk ((by rw [hg]; exact Nat.ne_of_gt (blk_lt (g := gb267) (o := .cells #[.int .i64 t258, .int .i64 t259, .int .i64 t260, .int .i64 t261, .int .i64 t262, .int .i64 t263, .int .i64 t264, .int .i64 t265] 23 (0, 0)) (by (with_reducible repeat (first | refine blk_drewN ?_ _ | refine blk_drew ?_ | refine blk_alloc ?_ _)); exact BK267.out)) : gb277 ≠ gb267)); clear BK267; clear HB; have BK267 := n0_; have HB := n1_; have BK277 := n2_; have GW277 := n3_; have GE277 := n4_; have NB267_277 := n5_; have NB277_267 := n6_; clear n0_ n1_ n2_ n3_ n4_ n5_ n6_; clear hb hbox hg; have hnb10 := NB277_267.out; have hnc10 := NB267_277.out; have hcz11_0 : w9.cell? ⟨gb277, 0, none⟩ = some (.int .i64 0) := (blk_cell BK277.out 0).trans rfl; have hcz11_1 : w9.cell? ⟨gb277, 1, none⟩ = some (.int .i64 0) := (blk_cell BK277.out 1).trans rfl; have hcz11_2 : w9.cell? ⟨gb277, 2, none⟩ = some (.int .i64 0) := (blk_cell BK277.out 2).trans rfl; have hcz11_3 : w9.cell? ⟨gb277, 3, none⟩ = some (.int .i64 0) := (blk_cell BK277.out 3).trans rfl; have hcz11_4 : w9.cell? ⟨gb277, 4, none⟩ = some (.int .i64 0) := (blk_cell BK277.out 4).trans rfl; have hcz11_5 : w9.cell? ⟨gb277, 5, none⟩ = some (.int .i64 0) := (blk_cell BK277.out 5).trans rfl; have hcz11_6 : w9.cell? ⟨gb277, 6, none⟩ = some (.int .i64 0) := (blk_cell BK277.out 6).trans rfl; have hcz11_7 : w9.cell? ⟨gb277, 7, none⟩ = some (.int .i64 0) := (blk_cell BK277.out 7).trans rfl; have hfz11_0 := blk_frozen BK277.out 0; have hfz11_1 := blk_frozen BK277.out 1; have hfz11_2 := blk_frozen BK277.out 2; have hfz11_3 := blk_frozen BK277.out 3; have hfz11_4 := blk_frozen BK277.out 4; have hfz11_5 := blk_frozen BK277.out 5; have hfz11_6 := blk_frozen BK277.out 6; have hfz11_7 := blk_frozen BK277.out 7; have hcz12_0 : w9.cell? ⟨gb267, 0, none⟩ = some (.int .i64 t258) := (blk_cell BK267.out 0).trans rfl; have hcz12_1 : w9.cell? ⟨gb267, 1, none⟩ = some (.int .i64 t259) := (blk_cell BK267.out 1).trans rfl; have hcz12_2 : w9.cell? ⟨gb267, 2, none⟩ = some (.int .i64 t260) := (blk_cell BK267.out 2).trans rfl; have hcz12_3 : w9.cell? ⟨gb267, 3, none⟩ = some (.int .i64 t261) := (blk_cell BK267.out 3).trans rfl; have hcz12_4 : w9.cell? ⟨gb267, 4, none⟩ = some (.int .i64 t262) := (blk_cell BK267.out 4).trans rfl; have hcz12_5 : w9.cell? ⟨gb267, 5, none⟩ = some (.int .i64 t263) := (blk_cell BK267.out 5).trans rfl; have hcz12_6 : w9.cell? ⟨gb267, 6, none⟩ = some (.int .i64 t264) := (blk_cell BK267.out 6).trans rfl; have hcz12_7 : w9.cell? ⟨gb267, 7, none⟩ = some (.int .i64 t265) := (blk_cell BK267.out 7).trans rfl; have hfz12_0 := blk_frozen BK267.out 0; have hfz12_1 := blk_frozen BK267.out 1; have hfz12_2 := blk_frozen BK267.out 2; have hfz12_3 := blk_frozen BK267.out 3; have hfz12_4 := blk_frozen BK267.out 4; have hfz12_5 := blk_frozen BK267.out 5; have hfz12_6 := blk_frozen BK267.out 6; have hfz12_7 := blk_frozen BK267.out 7))
    go_ret
    exact ⟨by first | rfl | (simp [errW_none, errW_some] <;> rfl) | (simp [*, errW_none, errW_some] <;> rfl), by repeat (first | (with_reducible first | exact HB.out | apply below_alloc | apply pw_below_drewN | apply below_drew1 | refine below_set ?_ GE267.out | refine below_set ?_ GE277.out) | exact HB.out)⟩
  · rw [if_neg c4] at H
    have c4b0 : (t258 == t268 && (t259 == t269 && (t260 == t270 && (t261 == t271 && (t262 == t272 && (t263 == t273 && (t264 == t274 && (t265 == t275)))))))) = false := by simpa using c4
    (try (have c4b1 : decide (t258 = t268 && (t259 == t269 && (t260 == t270 && (t261 == t271 && (t262 == t272 && (t263 == t273 && (t264 == t274 && (t265 == t275)))))))) = false := by simpa using c4))
    (try (have c4b2 : (t258 == t268 && (t259 == t269 && (t260 == t270 && (t261 == t271 && (t262 == t272 && (t263 == t273 && (t264 == t274 && (t265 == t275)))))))) = false := by simpa using c4))
    (try (have c4b3 : ¬ (t258 = t268 && (t259 == t269 && (t260 == t270 && (t261 == t271 && (t262 == t272 && (t263 == t273 && (t264 == t274 && (t265 == t275)))))))) := by simpa using c4))
    clear c4
    obtain rfl := Option.some.inj H
    go_enter Try.func19, Try.ntmps19
    go_wp2_with (first | ((with_reducible refine gate_callee (f := 20) rfl ?_); refine goesL_ (some 9) rfl rfl Try.func20 (by kernel_rfl) rfl #[.slice A0 l0.length c0] rfl (by (try simp only [List.map_toArray, List.map_cons, List.map_nil]); first | done | rfl | (simp only [List.length_drop, List.length_take]; rfl)) ?_; (with_reducible refine (event_Read.calls k _ _ l0 t258 t259 t260 t261 t262 t263 t264 t265 t266 _ ?side1 ?side2 A2.out).mono ?_); (case side1 => repeat (first | exact HR0.out | (with_reducible refine Kd.C_alloc ?_ _) | (with_reducible refine Kd.C_drewN ?_ _) | (with_reducible refine Kd.C_drew ?_))); (case side2 => exact HC0.out); rintro e w13 ⟨rfl, hb⟩; refine ⟨_, rfl, ?_⟩; have n0_ := Aside0.mk (below_step (by repeat (first | (with_reducible first | exact HB.out | apply below_alloc | apply pw_below_drewN | apply below_drew1) | exact HB.out)) hb); clear HB; have HB := n0_; clear n0_; (try clear hb); (try clear hb2); (try clear hk); (try clear hi)) | ((with_reducible refine gate_dst (N := 3) rfl ?_); refine box_event ?hg (N := 3) ?hd (cs := #[.int .i64 0, .int .i64 0, .int .i64 0, .int .i64 0, .int .i64 0, .int .i64 0, .int .i64 0, .int .i64 0]) (t := 23) ?hr ?_; (case hd => rfl); (case hg => rfl); (case hr => first | (go_simp; done) | (go_simp; rfl)); intro gb267 hg w14 hbox hb; have n0_ := Aside0.mk (below_step (by repeat (first | (with_reducible first | exact HB.out | apply below_alloc | apply pw_below_drewN | apply below_drew1) | exact HB.out)) hb); have n1_ := Aside0.mk (hbox); have n2_ := Aside0.mk ((by rw [hg]; exact (below_size (by repeat (first | (with_reducible first | exact HB.out | apply below_alloc | apply pw_below_drewN | apply below_drew1) | exact HB.out))) : w.heap.size ≤ gb267)); have n3_ := Aside0.mk ((by rw [hg]; exact (below_size (by repeat (first | (with_reducible first | exact HB.out | apply below_alloc | apply pw_below_drewN | apply below_drew1) | exact HB.out))) : w.heap.size ≤ gb267)); clear HB; have HB := n0_; have BK267 := n1_; have GW267 := n2_; have GE267 := n3_; clear n0_ n1_ n2_ n3_; clear hb hbox hg; have hcz15_0 : w14.cell? ⟨gb267, 0, none⟩ = some (.int .i64 0) := (blk_cell BK267.out 0).trans rfl; have hcz15_1 : w14.cell? ⟨gb267, 1, none⟩ = some (.int .i64 0) := (blk_cell BK267.out 1).trans rfl; have hcz15_2 : w14.cell? ⟨gb267, 2, none⟩ = some (.int .i64 0) := (blk_cell BK267.out 2).trans rfl; have hcz15_3 : w14.cell? ⟨gb267, 3, none⟩ = some (.int .i64 0) := (blk_cell BK267.out 3).trans rfl; have hcz15_4 : w14.cell? ⟨gb267, 4, none⟩ = some (.int .i64 0) := (blk_cell BK267.out 4).trans rfl; have hcz15_5 : w14.cell? ⟨gb267, 5, none⟩ = some (.int .i64 0) := (blk_cell BK267.out 5).trans rfl; have hcz15_6 : w14.cell? ⟨gb267, 6, none⟩ = some (.int .i64 0) := (blk_cell BK267.out 6).trans rfl; have hcz15_7 : w14.cell? ⟨gb267, 7, none⟩ = some (.int .i64 0) := (blk_cell BK267.out 7).trans rfl; have hfz15_0 := blk_frozen BK267.out 0; have hfz15_1 := blk_frozen BK267.out 1; have hfz15_2 := blk_frozen BK267.out 2; have hfz15_3 := blk_frozen BK267.out 3; have hfz15_4 := blk_frozen BK267.out 4; have hfz15_5 := blk_frozen BK267.out 5; have hfz15_6 := blk_frozen BK267.out 6; have hfz15_7 := blk_frozen BK267.out 7) | ((with_reducible refine gate_callee (f := 36) rfl ?_); refine goesL_ (some 14) rfl rfl Try.func36 (by kernel_rfl) rfl #[.slice A0 l0.length c0] rfl (by (try simp only [List.map_toArray, List.map_cons, List.map_nil]); first | done | rfl | (simp only [List.length_drop, List.length_take]; rfl)) ?_; (with_reducible refine (novationref4_ReadEvent.calls k _ _ l0 t268 t269 t270 t271 t272 t273 t274 t275 t276 _ ?side1 ?side2 A3.out).mono ?_); (case side1 => exact Kd.C_below HR0.out (by repeat (first | (with_reducible first | exact HB.out | apply below_alloc | apply pw_below_drewN | apply below_drew1 | refine below_set ?_ GE267.out) | exact HB.out))); (case side2 => exact HC0.out); rintro e w16 ⟨rfl, hb⟩; refine ⟨_, rfl, ?_⟩; have n0_ := Aside0.mk (blk_below (g := gb267) (o := .cells #[.int .i64 t258, .int .i64 t259, .int .i64 t260, .int .i64 t261, .int .i64 t262, .int .i64 t263, .int .i64 t264, .int .i64 t265] 23 (0, 0)) (by (with_reducible repeat (first | refine blk_drewN ?_ _ | refine blk_drew ?_ | refine blk_alloc ?_ _)); refine blk_put (cs := #[.int .i64 t258, .int .i64 t259, .int .i64 t260, .int .i64 t261, .int .i64 t262, .int .i64 t263, .int .i64 t264, .int .i64 0]) ?_ 7 _ rfl; (with_reducible repeat (first | refine blk_drewN ?_ _ | refine blk_drew ?_ | refine blk_alloc ?_ _)); refine blk_put (cs := #[.int .i64 t258, .int .i64 t259, .int .i64 t260, .int .i64 t261, .int .i64 t262, .int .i64 t263, .int .i64 0, .int .i64 0]) ?_ 6 _ rfl; (with_reducible repeat (first | refine blk_drewN ?_ _ | refine blk_drew ?_ | refine blk_alloc ?_ _)); refine blk_put (cs := #[.int .i64 t258, .int .i64 t259, .int .i64 t260, .int .i64 t261, .int .i64 t262, .int .i64 0, .int .i64 0, .int .i64 0]) ?_ 5 _ rfl; (with_reducible repeat (first | refine blk_drewN ?_ _ | refine blk_drew ?_ | refine blk_alloc ?_ _)); refine blk_put (cs := #[.int .i64 t258, .int .i64 t259, .int .i64 t260, .int .i64 t261, .int .i64 0, .int .i64 0, .int .i64 0, .int .i64 0]) ?_ 4 _ rfl; (with_reducible repeat (first | refine blk_drewN ?_ _ | refine blk_drew ?_ | refine blk_alloc ?_ _)); refine blk_put (cs := #[.int .i64 t258, .int .i64 t259, .int .i64 t260, .int .i64 0, .int .i64 0, .int .i64 0, .int .i64 0, .int .i64 0]) ?_ 3 _ rfl; (with_reducible repeat (first | refine blk_drewN ?_ _ | refine blk_drew ?_ | refine blk_alloc ?_ _)); refine blk_put (cs := #[.int .i64 t258, .int .i64 t259, .int .i64 0, .int .i64 0, .int .i64 0, .int .i64 0, .int .i64 0, .int .i64 0]) ?_ 2 _ rfl; (with_reducible repeat (first | refine blk_drewN ?_ _ | refine blk_drew ?_ | refine blk_alloc ?_ _)); refine blk_put (cs := #[.int .i64 t258, .int .i64 0, .int .i64 0, .int .i64 0, .int .i64 0, .int .i64 0, .int .i64 0, .int .i64 0]) ?_ 1 _ rfl; (with_reducible repeat (first | refine blk_drewN ?_ _ | refine blk_drew ?_ | refine blk_alloc ?_ _)); refine blk_put (cs := #[.int .i64 0, .int .i64 0, .int .i64 0, .int .i64 0, .int .i64 0, .int .i64 0, .int .i64 0, .int .i64 0]) ?_ 0 _ rfl; (with_reducible repeat (first | refine blk_drewN ?_ _ | refine blk_drew ?_ | refine blk_alloc ?_ _)); exact BK267.out) hb); have n1_ := Aside0.mk (below_step (by repeat (first | (with_reducible first | exact HB.out | apply below_alloc | apply pw_below_drewN | apply below_drew1 | refine below_set ?_ GE267.out) | exact HB.out)) hb); clear BK267; clear HB; have BK267 := n0_; have HB := n1_; clear n0_ n1_; (try clear hb); (try clear hb2); (try clear hk); (try clear hi)) | ((with_reducible refine gate_dst (N := 5) rfl ?_); refine box_event ?hg (N := 5) ?hd (cs := #[.int .i64 0, .int .i64 0, .int .i64 0, .int .i64 0, .int .i64 0, .int .i64 0, .int .i64 0, .int .i64 0]) (t := 23) ?hr ?_; (case hd => rfl); (case hg => rfl); (case hr => first | (go_simp; done) | (go_simp; rfl)); intro gb277 hg w17 hbox hb; have n0_ := Aside0.mk (blk_below (g := gb267) (o := .cells #[.int .i64 t258, .int .i64 t259, .int .i64 t260, .int .i64 t261, .int .i64 t262, .int .i64 t263, .int .i64 t264, .int .i64 t265] 23 (0, 0)) (by (with_reducible repeat (first | refine blk_drewN ?_ _ | refine blk_drew ?_ | refine blk_alloc ?_ _)); exact BK267.out) hb); have n1_ := Aside0.mk (below_step (by repeat (first | (with_reducible first | exact HB.out | apply below_alloc | apply pw_below_drewN | apply below_drew1 | refine below_set ?_ GE267.out) | exact HB.out)) hb); have n2_ := Aside0.mk (hbox); have n3_ := Aside0.mk ((by rw [hg]; exact (below_size (by repeat (first | (with_reducible first | exact HB.out | apply below_alloc | apply pw_below_drewN | apply below_drew1 | refine below_set ?_ GE267.out) | exact HB.out))) : w.heap.size ≤ gb277)); have n4_ := Aside0.mk ((by rw [hg]; exact (below_size (by repeat (first | (with_reducible first | exact HB.out | apply below_alloc | apply pw_below_drewN | apply below_drew1 | refine below_set ?_ GE267.out) | exact HB.out))) : w.heap.size ≤ gb277)); have n5_ := Aside0.mk ((by rw [hg]; exact Nat.ne_of_lt (blk_lt (g := gb267) (o := .cells #[.int .i64 t258, .int .i64 t259, .int .i64 t260, .int .i64 t261, .int .i64 t262, .int .i64 t263, .int .i64 t264, .int .i64 t265] 23 (0, 0)) (by (with_reducible repeat (first | refine blk_drewN ?_ _ | refine blk_drew ?_ | refine blk_alloc ?_ _)); exact BK267.out)) : gb267 ≠ gb277)); have n6_ := Aside0.mk ((by rw [hg]; exact Nat.ne_of_gt (blk_lt (g := gb267) (o := .cells #[.int .i64 t258, .int .i64 t259, .int .i64 t260, .int .i64 t261, .int .i64 t262, .int .i64 t263, .int .i64 t264, .int .i64 t265] 23 (0, 0)) (by (with_reducible repeat (first | refine blk_drewN ?_ _ | refine blk_drew ?_ | refine blk_alloc ?_ _)); exact BK267.out)) : gb277 ≠ gb267)); clear BK267; clear HB; have BK267 := n0_; have HB := n1_; have BK277 := n2_; have GW277 := n3_; have GE277 := n4_; have NB267_277 := n5_; have NB277_267 := n6_; clear n0_ n1_ n2_ n3_ n4_ n5_ n6_; clear hb hbox hg; have hnb18 := NB277_267.out; have hnc18 := NB267_277.out; have hcz19_0 : w17.cell? ⟨gb277, 0, none⟩ = some (.int .i64 0) := (blk_cell BK277.out 0).trans rfl; have hcz19_1 : w17.cell? ⟨gb277, 1, none⟩ = some (.int .i64 0) := (blk_cell BK277.out 1).trans rfl; have hcz19_2 : w17.cell? ⟨gb277, 2, none⟩ = some (.int .i64 0) := (blk_cell BK277.out 2).trans rfl; have hcz19_3 : w17.cell? ⟨gb277, 3, none⟩ = some (.int .i64 0) := (blk_cell BK277.out 3).trans rfl; have hcz19_4 : w17.cell? ⟨gb277, 4, none⟩ = some (.int .i64 0) := (blk_cell BK277.out 4).trans rfl; have hcz19_5 : w17.cell? ⟨gb277, 5, none⟩ = some (.int .i64 0) := (blk_cell BK277.out 5).trans rfl; have hcz19_6 : w17.cell? ⟨gb277, 6, none⟩ = some (.int .i64 0) := (blk_cell BK277.out 6).trans rfl; have hcz19_7 : w17.cell? ⟨gb277, 7, none⟩ = some (.int .i64 0) := (blk_cell BK277.out 7).trans rfl; have hfz19_0 := blk_frozen BK277.out 0; have hfz19_1 := blk_frozen BK277.out 1; have hfz19_2 := blk_frozen BK277.out 2; have hfz19_3 := blk_frozen BK277.out 3; have hfz19_4 := blk_frozen BK277.out 4; have hfz19_5 := blk_frozen BK277.out 5; have hfz19_6 := blk_frozen BK277.out 6; have hfz19_7 := blk_frozen BK277.out 7; have hcz20_0 : w17.cell? ⟨gb267, 0, none⟩ = some (.int .i64 t258) := (blk_cell BK267.out 0).trans rfl; have hcz20_1 : w17.cell? ⟨gb267, 1, none⟩ = some (.int .i64 t259) := (blk_cell BK267.out 1).trans rfl; have hcz20_2 : w17.cell? ⟨gb267, 2, none⟩ = some (.int .i64 t260) := (blk_cell BK267.out 2).trans rfl; have hcz20_3 : w17.cell? ⟨gb267, 3, none⟩ = some (.int .i64 t261) := (blk_cell BK267.out 3).trans rfl; have hcz20_4 : w17.cell? ⟨gb267, 4, none⟩ = some (.int .i64 t262) := (blk_cell BK267.out 4).trans rfl; have hcz20_5 : w17.cell? ⟨gb267, 5, none⟩ = some (.int .i64 t263) := (blk_cell BK267.out 5).trans rfl; have hcz20_6 : w17.cell? ⟨gb267, 6, none⟩ = some (.int .i64 t264) := (blk_cell BK267.out 6).trans rfl; have hcz20_7 : w17.cell? ⟨gb267, 7, none⟩ = some (.int .i64 t265) := (blk_cell BK267.out 7).trans rfl; have hfz20_0 := blk_frozen BK267.out 0; have hfz20_1 := blk_frozen BK267.out 1; have hfz20_2 := blk_frozen BK267.out 2; have hfz20_3 := blk_frozen BK267.out 3; have hfz20_4 := blk_frozen BK267.out 4; have hfz20_5 := blk_frozen BK267.out 5; have hfz20_6 := blk_frozen BK267.out 6; have hfz20_7 := blk_frozen BK267.out 7))
    go_ret
    exact ⟨by first | rfl | (simp [errW_none, errW_some] <;> rfl) | (simp [*, errW_none, errW_some] <;> rfl), by repeat (first | (with_reducible first | exact HB.out | apply below_alloc | apply pw_below_drewN | apply below_drew1 | refine below_set ?_ GE267.out | refine below_set ?_ GE277.out) | exact HB.out)⟩

/-! ### novationlaw6_EventReads: function 5 -/
def novationlaw6_EventReads.f (k : Nat) (l0 : List Int) : Option (Bool) := (novationlaw6_known.f k).bind fun t278 => (if t278 = true then (if (l0.length : Int) > 200 then (some true) else ((novationlaw6_reads.f k l0).bind fun t279 => (some t279))) else (none))
theorem novationlaw6_EventReads.mono : ∀ a0 k, LeO (novationlaw6_EventReads.f k a0) (novationlaw6_EventReads.f (k + 1) a0) := by
  intro a0 k
  unfold novationlaw6_EventReads.f
  repeat' first
      | (with_reducible exact novationlaw6_known.mono _)
      | (with_reducible exact novationlaw6_reads.mono _ _)
      | (with_reducible exact LeO.refl _)
      | (with_reducible exact LeO.none _)
      | (with_reducible refine LeO.ite ?_ ?_)
      | (with_reducible refine LeO.bind ?_ (fun _ => ?_))
      | exact novationlaw6_known.mono _
      | exact novationlaw6_reads.mono _ _
      | exact LeO.none _
      | refine LeO.ite ?_ ?_
      | refine LeO.bind ?_ (fun _ => ?_)
set_option maxHeartbeats 8000000 in
set_option maxRecDepth 100000 in
theorem novationlaw6_EventReads.calls (k : Nat) (A0 : Option Addr) (c0 : Nat) (l0 : List Int) (r : Bool) (w : World) (hr0 : Kd.C (Kd.int .u8) w A0 l0.length l0) (hc0 : l0.length ≤ c0) (h : novationlaw6_EventReads.f k l0 = some r) :
    Calls Try.prog 5 #[.slice A0 l0.length c0] w fun e w' => e = .returned (.bool r) ∧ Below w.heap.size w w' := by
  have HR0 := Aside0.mk hr0
  have HC0 := Aside0.mk hc0
  clear hr0 hc0
  have HB := Aside0.mk (Below.refl w.heap.size w)
  have H : ((novationlaw6_known.f k).bind fun t278 => (if t278 = true then (if (l0.length : Int) > 200 then (some true) else ((novationlaw6_reads.f k l0).bind fun t279 => (some t279))) else (none))) = some r := h
  clear h
  replace H := Option.bind_eq_some_iff.mp H
  obtain ⟨t278, A20, H⟩ := H
  replace H : (if t278 = true then (if (l0.length : Int) > 200 then (some true) else ((novationlaw6_reads.f k l0).bind fun t279 => (some t279))) else (none)) = some r := H
  have A2 := Aside0.mk A20
  clear A20
  by_cases c3 : t278 = true
  · subst c3
    have H1 : (if (l0.length : Int) > 200 then (some true) else ((novationlaw6_reads.f k l0).bind fun t279 => (some t279))) = some r := by rw [if_pos rfl] at H; exact H
    clear H
    have H := H1
    clear H1
    by_cases c4 : (l0.length : Int) > 200
    · rw [if_pos c4] at H
      have c4b0 : decide (200 < (l0.length : Int)) = true := decide_eq_true c4
      have c4b1 : decide (200 < l0.length) = true := decide_eq_true (by omega)
      clear c4
      obtain rfl := Option.some.inj H
      go_enter Try.func5, Try.ntmps5
      go_wp2_with (first | ((with_reducible refine gate_callee (f := 9) rfl ?_); refine goesL_ (some 3) rfl rfl Try.func9 (by kernel_rfl) rfl #[] rfl (by (try simp only [List.map_toArray, List.map_cons, List.map_nil]); first | done | rfl | (simp only [List.length_drop, List.length_take]; rfl)) ?_; (with_reducible refine (novationlaw6_known.calls k  true _ A2.out).mono ?_); rintro e w5 ⟨rfl, hb⟩; refine ⟨_, rfl, ?_⟩; have n0_ := Aside0.mk (below_step (by repeat (first | (with_reducible first | exact HB.out | apply below_alloc | apply pw_below_drewN | apply below_drew1) | exact HB.out)) hb); clear HB; have HB := n0_; clear n0_; (try clear hb); (try clear hb2); (try clear hk); (try clear hi)))
      go_ret
      exact ⟨by first | rfl | (simp [errW_none, errW_some] <;> rfl) | (simp [*, errW_none, errW_some] <;> rfl), by repeat (first | (with_reducible first | exact HB.out | apply below_alloc | apply pw_below_drewN | apply below_drew1) | exact HB.out)⟩
    · rw [if_neg c4] at H
      have c4b0 : decide (200 < (l0.length : Int)) = false := decide_eq_false c4
      have c4b1 : decide (200 < l0.length) = false := decide_eq_false (by omega)
      clear c4
      replace H := Option.bind_eq_some_iff.mp H
      obtain ⟨t279, A60, H⟩ := H
      replace H : (some t279) = some r := H
      have A6 := Aside0.mk A60
      clear A60
      obtain rfl := Option.some.inj H
      go_enter Try.func5, Try.ntmps5
      go_wp2_with (first | ((with_reducible refine gate_callee (f := 9) rfl ?_); refine goesL_ (some 3) rfl rfl Try.func9 (by kernel_rfl) rfl #[] rfl (by (try simp only [List.map_toArray, List.map_cons, List.map_nil]); first | done | rfl | (simp only [List.length_drop, List.length_take]; rfl)) ?_; (with_reducible refine (novationlaw6_known.calls k  true _ A2.out).mono ?_); rintro e w7 ⟨rfl, hb⟩; refine ⟨_, rfl, ?_⟩; have n0_ := Aside0.mk (below_step (by repeat (first | (with_reducible first | exact HB.out | apply below_alloc | apply pw_below_drewN | apply below_drew1) | exact HB.out)) hb); clear HB; have HB := n0_; clear n0_; (try clear hb); (try clear hb2); (try clear hk); (try clear hi)) | ((with_reducible refine gate_callee (f := 19) rfl ?_); refine goesL_ (some 9) rfl rfl Try.func19 (by kernel_rfl) rfl #[.slice A0 l0.length c0] rfl (by (try simp only [List.map_toArray, List.map_cons, List.map_nil]); first | done | rfl | (simp only [List.length_drop, List.length_take]; rfl)) ?_; (with_reducible refine (novationlaw6_reads.calls k _ _ l0 t279 _ ?side1 ?side2 A6.out).mono ?_); (case side1 => repeat (first | exact (Kd.C_below HR0.out HB.out) | (with_reducible refine Kd.C_alloc ?_ _) | (with_reducible refine Kd.C_drewN ?_ _) | (with_reducible refine Kd.C_drew ?_))); (case side2 => exact HC0.out); rintro e w8 ⟨rfl, hb⟩; refine ⟨_, rfl, ?_⟩; have n0_ := Aside0.mk (below_step (by repeat (first | (with_reducible first | exact HB.out | apply below_alloc | apply pw_below_drewN | apply below_drew1) | exact HB.out)) hb); clear HB; have HB := n0_; clear n0_; (try clear hb); (try clear hb2); (try clear hk); (try clear hi)))
      go_ret
      exact ⟨by first | rfl | (simp [errW_none, errW_some] <;> rfl) | (simp [*, errW_none, errW_some] <;> rfl), by repeat (first | (with_reducible first | exact HB.out | apply below_alloc | apply pw_below_drewN | apply below_drew1) | exact HB.out)⟩
  · replace c3 := Bool.eq_false_iff.mpr c3
    subst c3
    have H1 : (none) = some r := by rw [if_neg (show ¬ (false = true) by decide)] at H; exact H
    clear H
    have H := H1
    clear H1
    exact absurd H (by simp)

/-- THE ONE PURE STATEMENT of novationlaw6_EventReads: yours. -/
def novationlaw6_EventReads.Pure : Prop := ∀ (l0 : List Int), l0.length ≤ maxLen → l0.length * 1 ≤ 140737488351232 → (∀ x ∈ l0, (Lit.int .u8 x).wf = true) → ∃ k, novationlaw6_EventReads.f k l0 = some true
theorem novationlaw6_EventReads.walk (P : novationlaw6_EventReads.Pure) (a0 : Option Addr) (len0 cap0 : Nat) (z0 : List Int) (w : World) (w0 : (a0 = none ∧ len0 = 0 ∧ cap0 = 0 ∧ z0 = []) ∨ ∃ x, a0 = some x ∧ len0 ≤ cap0 ∧ cap0 ≤ maxLen ∧ z0.length = cap0 ∧ (∀ i, i < z0.length → w.cell? (x.add i) = some (.int .u8 (z0.getD i 0))) ∧ ∀ n ∈ z0, (Lit.int .u8 n).wf = true) (y0 : len0 * 1 ≤ 140737488351232) :
    Calls Try.prog 5 #[.slice a0 len0 cap0] w fun e w' => e = .returned (.bool true) ∧ Below w.heap.size w w' := by
  obtain ⟨l0, rfl, hr0, hm0, hw0, hc0⟩ := ReadsInt.ofRowC w0
  obtain ⟨k, h⟩ := P l0 hm0 y0 hw0
  refine (novationlaw6_EventReads.calls k _ _ l0 true w (Kd.C_of_reads (d := (0 : Int)) (h1 := fun _ => rfl) hr0) hc0 h).mono ?_
  rintro e w' ⟨rfl, hd⟩
  exact ⟨rfl, hd⟩

end Go.Proofs.Ytdhedlkfpdakpaa.QEventReads
