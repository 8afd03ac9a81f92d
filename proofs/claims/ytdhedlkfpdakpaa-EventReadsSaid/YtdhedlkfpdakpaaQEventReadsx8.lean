-- Written by wip/x/xprint.py (an own program, over the kit's print).
import Derived.Test.YtdhedlkfpdakpaaQEventReadsx0
namespace Go.Proofs.Ytdhedlkfpdakpaa.QEventReads
open Go.RowKit Go.Proofs.YtdhedlkfpdakpaaW.PrintWords Go.Proofs.YtdhedlkfpdakpaaW.PrintLast Go.Proofs.YtdhedlkfpdakpaaW.PrintMore
attribute [local go_sem] max2_int min2_int max_two min_two max_three min_three max_four min_four   -- for this text's walks alone
set_option linter.unusedVariables false
set_option linter.unusedSimpArgs false

/-! ### novationref4_number: function 42 -/
mutual
def novationref4_number.l0 : Nat → List Int → Int → Int → Int → Option (Int × Int)
  | 0, _, _, _, _ => none
  | k + 1, x0, x1, x6, x7 => if x7 < 10 then (novationref4_number.j1 k x0 x1 x6 x7 (decide ((wrap64 (x1 + x7)) < (x0.length : Int)))) else (novationref4_number.j1 k x0 x1 x6 x7 false)
def novationref4_number.j1 : Nat → List Int → Int → Int → Int → Bool → Option (Int × Int)
  | 0, _, _, _, _, _ => none
  | k + 1, x0, x1, x6, x7, x18 => if x18 = true then (if 0 ≤ (wrap64 (x1 + x7)) then (if (wrap64 (x1 + x7)) < (x0.length : Int) then (if x7 = 9 then (if (rd x0 (wrap64 (x1 + x7))) > 1 then (novationref4_number.j2 k x0 x1 x6 x7 (rd x0 (wrap64 (x1 + x7))) true) else (if (rd x0 (wrap64 (x1 + x7))) = 0 then (novationref4_number.j2 k x0 x1 x6 x7 (rd x0 (wrap64 (x1 + x7))) (decide (x7 > 0))) else (novationref4_number.j2 k x0 x1 x6 x7 (rd x0 (wrap64 (x1 + x7))) false))) else (if (rd x0 (wrap64 (x1 + x7))) = 0 then (novationref4_number.j2 k x0 x1 x6 x7 (rd x0 (wrap64 (x1 + x7))) (decide (x7 > 0))) else (novationref4_number.j2 k x0 x1 x6 x7 (rd x0 (wrap64 (x1 + x7))) false))) else (none)) else (none)) else (some (0, (-1)))
def novationref4_number.j2 : Nat → List Int → Int → Int → Int → Int → Bool → Option (Int × Int)
  | 0, _, _, _, _, _, _ => none
  | k + 1, x0, x1, x6, x7, x8, x40 => if x40 = true then (some (0, (-1))) else (if 0 ≤ (wrap64 (7 * x7)) then (if x8 < 128 then (if (Go.bits .and .u64 (Go.bits .or .u64 x6 (shl .u64 (IntKind.u64.wrap (Go.bits .and .u8 x8 127)) (wrap64 (7 * x7)))) 1) = 1 then (some (wrap64 ((wrap64 (-(wrap64 ((Go.bits .or .u64 x6 (shl .u64 (IntKind.u64.wrap (Go.bits .and .u8 x8 127)) (wrap64 (7 * x7)))) / 2)))) - 1), wrap64 ((wrap64 (x1 + x7)) + 1))) else (some (wrap64 ((Go.bits .or .u64 x6 (shl .u64 (IntKind.u64.wrap (Go.bits .and .u8 x8 127)) (wrap64 (7 * x7)))) / 2), wrap64 ((wrap64 (x1 + x7)) + 1)))) else (novationref4_number.l0 k x0 x1 (Go.bits .or .u64 x6 (shl .u64 (IntKind.u64.wrap (Go.bits .and .u8 x8 127)) (wrap64 (7 * x7)))) (wrap64 (x7 + 1)))) else (none))
end
def novationref4_number.f (k : Nat) (l0 : List Int) (a1 : Int) : Option (Int × Int) := novationref4_number.l0 k l0 a1 0 0
theorem novationref4_number.mono_l : ∀ k, (∀ y0 y1 y2 y3, LeO (novationref4_number.l0 k y0 y1 y2 y3) (novationref4_number.l0 (k + 1) y0 y1 y2 y3)) ∧ (∀ y0 y1 y2 y3 y4, LeO (novationref4_number.j1 k y0 y1 y2 y3 y4) (novationref4_number.j1 (k + 1) y0 y1 y2 y3 y4)) ∧ (∀ y0 y1 y2 y3 y4 y5, LeO (novationref4_number.j2 k y0 y1 y2 y3 y4 y5) (novationref4_number.j2 (k + 1) y0 y1 y2 y3 y4 y5))
  | 0 => ⟨fun _ _ _ _ r h => by simp [novationref4_number.l0] at h, fun _ _ _ _ _ r h => by simp [novationref4_number.j1] at h, fun _ _ _ _ _ _ r h => by simp [novationref4_number.j2] at h⟩
  | k + 1 => by
    obtain ⟨ih0, ih1, ih2⟩ := novationref4_number.mono_l k
    refine ⟨?_, ?_, ?_⟩
    · intro y0 y1 y2 y3
      unfold novationref4_number.l0
      repeat' first
      | (with_reducible exact ih0 _ _ _ _)
      | (with_reducible exact ih1 _ _ _ _ _)
      | (with_reducible exact ih2 _ _ _ _ _ _)
      | (with_reducible exact LeO.refl _)
      | (with_reducible exact LeO.none _)
      | (with_reducible refine LeO.ite ?_ ?_)
      | (with_reducible refine LeO.bind ?_ (fun _ => ?_))
      | exact ih0 _ _ _ _
      | exact ih1 _ _ _ _ _
      | exact ih2 _ _ _ _ _ _
      | exact LeO.none _
      | refine LeO.ite ?_ ?_
      | refine LeO.bind ?_ (fun _ => ?_)
    · intro y0 y1 y2 y3 y4
      unfold novationref4_number.j1
      repeat' first
      | (with_reducible exact ih0 _ _ _ _)
      | (with_reducible exact ih1 _ _ _ _ _)
      | (with_reducible exact ih2 _ _ _ _ _ _)
      | (with_reducible exact LeO.refl _)
      | (with_reducible exact LeO.none _)
      | (with_reducible refine LeO.ite ?_ ?_)
      | (with_reducible refine LeO.bind ?_ (fun _ => ?_))
      | exact ih0 _ _ _ _
      | exact ih1 _ _ _ _ _
      | exact ih2 _ _ _ _ _ _
      | exact LeO.none _
      | refine LeO.ite ?_ ?_
      | refine LeO.bind ?_ (fun _ => ?_)
    · intro y0 y1 y2 y3 y4 y5
      unfold novationref4_number.j2
      repeat' first
      | (with_reducible exact ih0 _ _ _ _)
      | (with_reducible exact ih1 _ _ _ _ _)
      | (with_reducible exact ih2 _ _ _ _ _ _)
      | (with_reducible exact LeO.refl _)
      | (with_reducible exact LeO.none _)
      | (with_reducible refine LeO.ite ?_ ?_)
      | (with_reducible refine LeO.bind ?_ (fun _ => ?_))
      | exact ih0 _ _ _ _
      | exact ih1 _ _ _ _ _
      | exact ih2 _ _ _ _ _ _
      | exact LeO.none _
      | refine LeO.ite ?_ ?_
      | refine LeO.bind ?_ (fun _ => ?_)
theorem novationref4_number.mono : ∀ a0 a1 k, LeO (novationref4_number.f k a0 a1) (novationref4_number.f (k + 1) a0 a1) := by
  intro a0 a1 k
  obtain ⟨ih0, ih1, ih2⟩ := novationref4_number.mono_l k
  unfold novationref4_number.f
  repeat' first
      | (with_reducible exact ih0 _ _ _ _)
      | (with_reducible exact ih1 _ _ _ _ _)
      | (with_reducible exact ih2 _ _ _ _ _ _)
      | (with_reducible exact LeO.refl _)
      | (with_reducible exact LeO.none _)
      | (with_reducible refine LeO.ite ?_ ?_)
      | (with_reducible refine LeO.bind ?_ (fun _ => ?_))
      | exact ih0 _ _ _ _
      | exact ih1 _ _ _ _ _
      | exact ih2 _ _ _ _ _ _
      | exact LeO.none _
      | refine LeO.ite ?_ ?_
      | refine LeO.bind ?_ (fun _ => ?_)
set_option maxHeartbeats 8000000 in
set_option maxRecDepth 100000 in
theorem novationref4_number.calls (k : Nat) (A0 : Option Addr) (c0 : Nat) (l0 : List Int) (a1 : Int) (r1 : Int) (r2 : Int) (w : World) (hr0 : Kd.C (Kd.int .u8) w A0 l0.length l0) (hc0 : l0.length ≤ c0) (h : novationref4_number.f k l0 a1 = some (r1, r2)) :
    Calls Try.prog 42 #[.slice A0 l0.length c0, .int .i64 a1] w fun e w' => e = .returned (.tuple #[.int .i64 r1, .int .i64 r2]) ∧ Drawn0 w w' := by
  have HR0 := Aside0.mk hr0
  have HC0 := Aside0.mk hc0
  clear hr0 hc0
  have H : (novationref4_number.l0 k l0 a1 0 0) = some (r1, r2) := h
  clear h
  have H' := Aside0.mk H
  clear H
  go_enter Try.func42, Try.ntmps42
  go_wp2
  go_loopg [6, 7] k (fun kq v6 v7 w' => ∃ (x6_1 : Int) (x7_1 : Int), v6 = .int .u64 x6_1 ∧ v7 = .int .i64 x7_1 ∧ Aside0 (novationref4_number.l0 kq l0 a1 x6_1 x7_1 = some (r1, r2)) ∧ Aside0 (kq ≤ k) ∧ Drawn0 w w')
  case atStart => exact ⟨(0), (0), (by first | rfl | (simp; done) | (simp [*]; done)), (by first | rfl | (simp; done) | (simp [*]; done)), H', ⟨Nat.le_refl _⟩, by repeat (first | exact Drawn0.refl _ | apply Drawn0.step)⟩
  case round =>
    clear H'
    try clear p2
    obtain ⟨x6_1, x7_1, rfl, rfl, HA, HK1, ⟨m1, rfl⟩⟩ := hrel
    cases gk with
    | zero => exact absurd HA.out (by simp [novationref4_number.l0])
    | succ k1 =>
      have H := HA.out
      clear HA
      simp only [novationref4_number.l0] at H
      have HC3 := Aside0.mk H
      clear H
      go_upto_region 3 with (fail)
      go_cut [18] (fun v18 wc => ∃ (kq : Nat) (x18_2 : Bool), v18 = .bool x18_2 ∧ Aside0 (novationref4_number.j1 kq l0 a1 x6_1 x7_1 x18_2 = some (r1, r2)) ∧ Aside0 (kq ≤ k1) ∧ Drawn0 w wc)
      case first =>
        have H := HC3.out
        clear HC3
        by_cases c4 : x7_1 < 10
        · rw [if_pos c4] at H
          have c4b0 : decide (x7_1 < 10) = true := decide_eq_true c4
          clear c4
          (first | rw [c4b0] | (simp only [i64_w, i32_w]; rw [c4b0]) | skip)
          have H' := Aside0.mk H
          clear H
          go_wp2
          go_meet
          case rel => exact ⟨_, (decide ((wrap64 (a1 + x7_1)) < (l0.length : Int))), (by first | rfl | (simp; done) | (simp [*]; done)), H', ⟨by have := HK1.out; first | omega | exact Nat.le_refl _⟩, by repeat (first | exact Drawn0.refl _ | apply Drawn0.step)⟩
        · rw [if_neg c4] at H
          have c4b0 : decide (x7_1 < 10) = false := decide_eq_false c4
          clear c4
          (first | rw [c4b0] | (simp only [i64_w, i32_w]; rw [c4b0]) | skip)
          have H' := Aside0.mk H
          clear H
          go_wp2
          go_meet
          case rel => exact ⟨_, (false), (by first | rfl | (simp; done) | (simp [*]; done)), H', ⟨by have := HK1.out; first | omega | exact Nat.le_refl _⟩, by repeat (first | exact Drawn0.refl _ | apply Drawn0.step)⟩
      case rest =>
        clear HC3
        try clear p2
        try clear c4
        try clear c4b0
        try clear p2
        obtain ⟨kq, x18_2, rfl, HA, HJ2, ⟨mc2, rfl⟩⟩ := hcut
        cases kq with
        | zero => exact absurd HA.out (by simp [novationref4_number.j1])
        | succ kj2 =>
          have H := HA.out
          clear HA
          simp only [novationref4_number.j1] at H
          by_cases c5 : x18_2 = true
          · subst c5
            have H1 : (if 0 ≤ (wrap64 (a1 + x7_1)) then (if (wrap64 (a1 + x7_1)) < (l0.length : Int) then (if x7_1 = 9 then (if (rd l0 (wrap64 (a1 + x7_1))) > 1 then (novationref4_number.j2 kj2 l0 a1 x6_1 x7_1 (rd l0 (wrap64 (a1 + x7_1))) true) else (if (rd l0 (wrap64 (a1 + x7_1))) = 0 then (novationref4_number.j2 kj2 l0 a1 x6_1 x7_1 (rd l0 (wrap64 (a1 + x7_1))) (decide (x7_1 > 0))) else (novationref4_number.j2 kj2 l0 a1 x6_1 x7_1 (rd l0 (wrap64 (a1 + x7_1))) false))) else (if (rd l0 (wrap64 (a1 + x7_1))) = 0 then (novationref4_number.j2 kj2 l0 a1 x6_1 x7_1 (rd l0 (wrap64 (a1 + x7_1))) (decide (x7_1 > 0))) else (novationref4_number.j2 kj2 l0 a1 x6_1 x7_1 (rd l0 (wrap64 (a1 + x7_1))) false))) else (none)) else (none)) = some (r1, r2) := by rw [if_pos rfl] at H; exact H
            clear H
            have H := H1
            clear H1
            obtain ⟨ji6, hji6⟩ : ∃ j_ : Int, (wrap64 (a1 + x7_1)) = j_ := ⟨_, rfl⟩
            replace H : (if 0 ≤ (ji6) then (if (ji6) < (l0.length : Int) then (if x7_1 = 9 then (if (rd l0 (ji6)) > 1 then (novationref4_number.j2 kj2 l0 a1 x6_1 x7_1 (rd l0 (ji6)) true) else (if (rd l0 (ji6)) = 0 then (novationref4_number.j2 kj2 l0 a1 x6_1 x7_1 (rd l0 (ji6)) (decide (x7_1 > 0))) else (novationref4_number.j2 kj2 l0 a1 x6_1 x7_1 (rd l0 (ji6)) false))) else (if (rd l0 (ji6)) = 0 then (novationref4_number.j2 kj2 l0 a1 x6_1 x7_1 (rd l0 (ji6)) (decide (x7_1 > 0))) else (novationref4_number.j2 kj2 l0 a1 x6_1 x7_1 (rd l0 (ji6)) false))) else (none)) else (none)) = some (r1, r2) := by first | (rw [hji6] at H; exact H) | (simp only [hji6] at H ⊢; exact H)
            have hji6w : (IntKind.i64.wrap (a1 + x7_1)) = ji6 := (i64_w _).trans hji6
            by_cases c7 : 0 ≤ (ji6)
            · rw [if_pos c7] at H
              have c7b0 : decide (0 ≤ (ji6)) = true := decide_eq_true c7
              clear c7
              by_cases c8 : (ji6) < (l0.length : Int)
              · rw [if_pos c8] at H
                have c8b0 : decide ((ji6) < (l0.length : Int)) = true := decide_eq_true c8
                clear c8
                have HC9 := Aside0.mk H
                clear H
                have p240 : 0 ≤ ((ji6) : Int) := of_decide_eq_true (by first | (with_reducible assumption) | assumption)
                have q240 : (ji6) < (l0.length : Int) := of_decide_eq_true (by first | (with_reducible assumption) | assumption)
                obtain ⟨ad240, e240, hx240_0⟩ := Kd.at_int HR0.out (ji6) p240 q240
                cases e240
                replace p240 := eq_true p240
                replace q240 := eq_true q240
                go_upto_region 6 with (fail)
                go_cut [40] (fun v40 wc => ∃ (kq : Nat) (x40_8 : Bool), v40 = .bool x40_8 ∧ Aside0 (novationref4_number.j2 kq l0 a1 x6_1 x7_1 (rd l0 (ji6)) x40_8 = some (r1, r2)) ∧ Aside0 (kq ≤ kj2) ∧ Drawn0 w wc)
                case first =>
                  have H := HC9.out
                  clear HC9
                  by_cases c10 : x7_1 = 9
                  · rw [if_pos c10] at H
                    have c10b0 : (x7_1 == 9) = true := beq_iff_eq.mpr c10
                    have c10b1 : (x7_1 != 9) = false := bne_eq_false_iff_eq.mpr c10
                    clear c10
                    (first | rw [c10b0] | (simp only [i64_w, i32_w]; rw [c10b0]) | skip)
                    by_cases c11 : (rd l0 (ji6)) > 1
                    · rw [if_pos c11] at H
                      have c11b0 : decide (1 < (rd l0 (ji6))) = true := decide_eq_true c11
                      clear c11
                      have H' := Aside0.mk H
                      clear H
                      go_wp2
                      go_meet
                      case rel => exact ⟨_, (true), (by first | rfl | (simp; done) | (simp [*]; done)), H', ⟨by have := HK1.out; have := HJ2.out; first | omega | exact Nat.le_refl _⟩, by repeat (first | exact Drawn0.refl _ | apply Drawn0.step)⟩
                    · rw [if_neg c11] at H
                      have c11b0 : decide (1 < (rd l0 (ji6))) = false := decide_eq_false c11
                      clear c11
                      by_cases c12 : (rd l0 (ji6)) = 0
                      · rw [if_pos c12] at H
                        have c12b0 : ((rd l0 (ji6)) == 0) = true := beq_iff_eq.mpr c12
                        have c12b1 : ((rd l0 (ji6)) != 0) = false := bne_eq_false_iff_eq.mpr c12
                        clear c12
                        have H' := Aside0.mk H
                        clear H
                        go_wp2
                        go_meet
                        case rel => exact ⟨_, (decide (x7_1 > 0)), (by first | rfl | (simp; done) | (simp [*]; done)), H', ⟨by have := HK1.out; have := HJ2.out; first | omega | exact Nat.le_refl _⟩, by repeat (first | exact Drawn0.refl _ | apply Drawn0.step)⟩
                      · rw [if_neg c12] at H
                        have c12b0 : ((rd l0 (ji6)) == 0) = false := beq_eq_false_iff_ne.mpr c12
                        have c12b1 : ((rd l0 (ji6)) != 0) = true := bne_iff_ne.mpr c12
                        have H' := Aside0.mk H
                        clear H
                        go_wp2
                        go_meet
                        case rel => exact ⟨_, (false), (by first | rfl | (simp; done) | (simp [*]; done)), H', ⟨by have := HK1.out; have := HJ2.out; first | omega | exact Nat.le_refl _⟩, by repeat (first | exact Drawn0.refl _ | apply Drawn0.step)⟩
                  · rw [if_neg c10] at H
                    have c10b0 : (x7_1 == 9) = false := beq_eq_false_iff_ne.mpr c10
                    have c10b1 : (x7_1 != 9) = true := bne_iff_ne.mpr c10
                    (first | rw [c10b0] | (simp only [i64_w, i32_w]; rw [c10b0]) | skip)
                    by_cases c13 : (rd l0 (ji6)) = 0
                    · rw [if_pos c13] at H
                      have c13b0 : ((rd l0 (ji6)) == 0) = true := beq_iff_eq.mpr c13
                      have c13b1 : ((rd l0 (ji6)) != 0) = false := bne_eq_false_iff_eq.mpr c13
                      clear c13
                      have H' := Aside0.mk H
                      clear H
                      go_wp2
                      go_meet
                      case rel => exact ⟨_, (decide (x7_1 > 0)), (by first | rfl | (simp; done) | (simp [*]; done)), H', ⟨by have := HK1.out; have := HJ2.out; first | omega | exact Nat.le_refl _⟩, by repeat (first | exact Drawn0.refl _ | apply Drawn0.step)⟩
                    · rw [if_neg c13] at H
                      have c13b0 : ((rd l0 (ji6)) == 0) = false := beq_eq_false_iff_ne.mpr c13
                      have c13b1 : ((rd l0 (ji6)) != 0) = true := bne_iff_ne.mpr c13
                      have H' := Aside0.mk H
                      clear H
                      go_wp2
                      go_meet
                      case rel => exact ⟨_, (false), (by first | rfl | (simp; done) | (simp [*]; done)), H', ⟨by have := HK1.out; have := HJ2.out; first | omega | exact Nat.le_refl _⟩, by repeat (first | exact Drawn0.refl _ | apply Drawn0.step)⟩
                case rest =>
                  clear HC9
                  try clear c1
                  try clear c2
                  try clear p2
                  try clear q2
                  try clear hx2
                  try clear c4
                  try clear c4b0
                  try clear c5
                  try clear p6
                  try clear c7
                  try clear c7b0
                  try clear c8
                  try clear c8b0
                  try clear c10
                  try clear c10b0
                  try clear c10b1
                  try clear c11
                  try clear c11b0
                  try clear c12
                  try clear c12b0
                  try clear c12b1
                  try clear c13
                  try clear c13b0
                  try clear c13b1
                  try clear hx240_0
                  try clear p2
                  try clear p240
                  try clear q240
                  obtain ⟨kq, x40_8, rfl, HA, HJ8, ⟨mc8, rfl⟩⟩ := hcut
                  cases kq with
                  | zero => exact absurd HA.out (by simp [novationref4_number.j2])
                  | succ kj8 =>
                    have H := HA.out
                    clear HA
                    simp only [novationref4_number.j2] at H
                    by_cases c14 : x40_8 = true
                    · subst c14
                      have H1 : (some (0, (-1))) = some (r1, r2) := by rw [if_pos rfl] at H; exact H
                      clear H
                      have H := H1
                      clear H1
                      simp only [Option.some.injEq, Prod.mk.injEq] at H
                      obtain ⟨rfl, rfl⟩ := H
                      go_wp2
                      go_ret2
                      exact ⟨by first | rfl | (simp; done) | (simp only [← hji6] <;> (first | rfl | simp)) | (simp [*]; done), by repeat (first | exact Drawn0.refl _ | apply Drawn0.step)⟩
                    · replace c14 := Bool.eq_false_iff.mpr c14
                      subst c14
                      have H1 : (if 0 ≤ (wrap64 (7 * x7_1)) then (if (rd l0 (ji6)) < 128 then (if (Go.bits .and .u64 (Go.bits .or .u64 x6_1 (shl .u64 (IntKind.u64.wrap (Go.bits .and .u8 (rd l0 (ji6)) 127)) (wrap64 (7 * x7_1)))) 1) = 1 then (some (wrap64 ((wrap64 (-(wrap64 ((Go.bits .or .u64 x6_1 (shl .u64 (IntKind.u64.wrap (Go.bits .and .u8 (rd l0 (ji6)) 127)) (wrap64 (7 * x7_1)))) / 2)))) - 1), wrap64 ((wrap64 (a1 + x7_1)) + 1))) else (some (wrap64 ((Go.bits .or .u64 x6_1 (shl .u64 (IntKind.u64.wrap (Go.bits .and .u8 (rd l0 (ji6)) 127)) (wrap64 (7 * x7_1)))) / 2), wrap64 ((wrap64 (a1 + x7_1)) + 1)))) else (novationref4_number.l0 kj8 l0 a1 (Go.bits .or .u64 x6_1 (shl .u64 (IntKind.u64.wrap (Go.bits .and .u8 (rd l0 (ji6)) 127)) (wrap64 (7 * x7_1)))) (wrap64 (x7_1 + 1)))) else (none)) = some (r1, r2) := by rw [if_neg (show ¬ (false = true) by decide)] at H; exact H
                      clear H
                      have H := H1
                      clear H1
                      obtain ⟨ji15, hji15⟩ : ∃ j_ : Int, (wrap64 (7 * x7_1)) = j_ := ⟨_, rfl⟩
                      replace H : (if 0 ≤ (ji15) then (if (rd l0 (ji6)) < 128 then (if (Go.bits .and .u64 (Go.bits .or .u64 x6_1 (shl .u64 (IntKind.u64.wrap (Go.bits .and .u8 (rd l0 (ji6)) 127)) (ji15))) 1) = 1 then (some (wrap64 ((wrap64 (-(wrap64 ((Go.bits .or .u64 x6_1 (shl .u64 (IntKind.u64.wrap (Go.bits .and .u8 (rd l0 (ji6)) 127)) (ji15))) / 2)))) - 1), wrap64 ((wrap64 (a1 + x7_1)) + 1))) else (some (wrap64 ((Go.bits .or .u64 x6_1 (shl .u64 (IntKind.u64.wrap (Go.bits .and .u8 (rd l0 (ji6)) 127)) (ji15))) / 2), wrap64 ((wrap64 (a1 + x7_1)) + 1)))) else (novationref4_number.l0 kj8 l0 a1 (Go.bits .or .u64 x6_1 (shl .u64 (IntKind.u64.wrap (Go.bits .and .u8 (rd l0 (ji6)) 127)) (ji15))) (wrap64 (x7_1 + 1)))) else (none)) = some (r1, r2) := by first | (rw [hji15] at H; exact H) | (simp only [hji15] at H ⊢; exact H)
                      have hji15w : (IntKind.i64.wrap (7 * x7_1)) = ji15 := (i64_w _).trans hji15
                      by_cases c16 : 0 ≤ (ji15)
                      · rw [if_pos c16] at H
                        have c16b0 := eq_true c16
                        have c16b1 : decide (0 ≤ (ji15)) = true := decide_eq_true c16
                        clear c16
                        obtain ⟨ji17, hji17⟩ : ∃ j_ : Int, (shl .u64 (IntKind.u64.wrap (Go.bits .and .u8 (rd l0 (ji6)) 127)) (ji15)) = j_ := ⟨_, rfl⟩
                        replace H : (if (rd l0 (ji6)) < 128 then (if (Go.bits .and .u64 (Go.bits .or .u64 x6_1 (ji17)) 1) = 1 then (some (wrap64 ((wrap64 (-(wrap64 ((Go.bits .or .u64 x6_1 (ji17)) / 2)))) - 1), wrap64 ((wrap64 (a1 + x7_1)) + 1))) else (some (wrap64 ((Go.bits .or .u64 x6_1 (ji17)) / 2), wrap64 ((wrap64 (a1 + x7_1)) + 1)))) else (novationref4_number.l0 kj8 l0 a1 (Go.bits .or .u64 x6_1 (ji17)) (wrap64 (x7_1 + 1)))) = some (r1, r2) := by first | (rw [hji17] at H; exact H) | (simp only [hji17] at H ⊢; exact H)
                        have hji17_ : (IntKind.u64.wrap ((IntKind.u64.wrap (Go.bits .and .u8 (rd l0 (ji6)) 127)) * 2 ^ min (ji15).toNat 64)) = ji17 := hji17
                        have hji17z : (ji15) ≤ 64 → (IntKind.u64.wrap ((IntKind.u64.wrap (Go.bits .and .u8 (rd l0 (ji6)) 127)) * 2 ^ (ji15).toNat)) = ji17 := shl_small hji17
                        by_cases c18 : (rd l0 (ji6)) < 128
                        · rw [if_pos c18] at H
                          have c18b0 : decide ((rd l0 (ji6)) < 128) = true := decide_eq_true c18
                          clear c18
                          by_cases c19 : (Go.bits .and .u64 (Go.bits .or .u64 x6_1 (ji17)) 1) = 1
                          · rw [if_pos c19] at H
                            have c19b0 : ((Go.bits .and .u64 (Go.bits .or .u64 x6_1 (ji17)) 1) == 1) = true := beq_iff_eq.mpr c19
                            have c19b1 : ((Go.bits .and .u64 (Go.bits .or .u64 x6_1 (ji17)) 1) != 1) = false := bne_eq_false_iff_eq.mpr c19
                            clear c19
                            simp only [Option.some.injEq, Prod.mk.injEq] at H
                            obtain ⟨rfl, rfl⟩ := H
                            go_wp2
                            go_ret2
                            exact ⟨by first | rfl | (simp; done) | (simp only [← hji6, ← hji15, ← hji17] <;> (first | rfl | simp)) | (simp [*]; done), by repeat (first | exact Drawn0.refl _ | apply Drawn0.step)⟩
                          · rw [if_neg c19] at H
                            have c19b0 : ((Go.bits .and .u64 (Go.bits .or .u64 x6_1 (ji17)) 1) == 1) = false := beq_eq_false_iff_ne.mpr c19
                            have c19b1 : ((Go.bits .and .u64 (Go.bits .or .u64 x6_1 (ji17)) 1) != 1) = true := bne_iff_ne.mpr c19
                            simp only [Option.some.injEq, Prod.mk.injEq] at H
                            obtain ⟨rfl, rfl⟩ := H
                            go_wp2
                            go_ret2
                            exact ⟨by first | rfl | (simp; done) | (simp only [← hji6, ← hji15, ← hji17] <;> (first | rfl | simp)) | (simp [*]; done), by repeat (first | exact Drawn0.refl _ | apply Drawn0.step)⟩
                        · rw [if_neg c18] at H
                          have c18b0 : decide ((rd l0 (ji6)) < 128) = false := decide_eq_false c18
                          clear c18
                          have H' := Aside0.mk H
                          clear H
                          go_wp2
                          go_roundg kj8
                          case measure => have := HK1.out; have := HJ2.out; have := HJ8.out; omega
                          case rel => exact ⟨(Go.bits .or .u64 x6_1 (ji17)), (wrap64 (x7_1 + 1)), (by first | rfl | (simp; done) | (simp only [← hji17] <;> (first | rfl | simp)) | (simp [*]; done)), (by first | rfl | (simp; done) | (simp [*]; done)), H', ⟨by have := HK1.out; have := HJ2.out; have := HJ8.out; omega⟩, by repeat (first | exact Drawn0.refl _ | apply Drawn0.step)⟩
                      · rw [if_neg c16] at H
                        exact absurd H (by simp)
              · rw [if_neg c8] at H
                exact absurd H (by simp)
            · rw [if_neg c7] at H
              exact absurd H (by simp)
          · replace c5 := Bool.eq_false_iff.mpr c5
            subst c5
            have H1 : (some (0, (-1))) = some (r1, r2) := by rw [if_neg (show ¬ (false = true) by decide)] at H; exact H
            clear H
            have H := H1
            clear H1
            simp only [Option.some.injEq, Prod.mk.injEq] at H
            obtain ⟨rfl, rfl⟩ := H
            go_wp2
            go_ret2
            exact ⟨by first | rfl | (simp; done) | (simp [*]; done), by repeat (first | exact Drawn0.refl _ | apply Drawn0.step)⟩

end Go.Proofs.Ytdhedlkfpdakpaa.QEventReads
