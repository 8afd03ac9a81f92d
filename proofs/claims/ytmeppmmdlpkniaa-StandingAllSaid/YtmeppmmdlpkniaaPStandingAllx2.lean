-- PRINTED BY print.sh 35421559b90ae4d0a3588c463048766b98c2df88dd9212a6774a882060cdf62d: not written by this session
import Derived.Test.YtmeppmmdlpkniaaPStandingAllx0
import Derived.Test.YtmeppmmdlpkniaaPStandingAllx1
namespace Go.Proofs.Ytmeppmmdlpkniaa.PStandingAll
open Go.RowKit Go.Proofs.YtmeppmmdlpkniaaW.PrintWords Go.Proofs.YtmeppmmdlpkniaaW.PrintLast Go.Proofs.YtmeppmmdlpkniaaW.PrintMore
attribute [local go_sem] max2_int min2_int max_two min_two max_three min_three max_four min_four   -- for this text's walks alone
set_option linter.unusedVariables false
set_option linter.unusedSimpArgs false

/-! ### novationref10_NextStatus: function 9 -/
mutual
def novationref10_NextStatus.j0 : Nat → Int → Int → Bool → Option (Int × Bool)
  | 0, _, _, _ => none
  | k + 1, x0, x1, x6 => if x6 = true then (some (1, true)) else (if x0 = 1 then (novationref10_NextStatus.j1 k x0 x1 (x1 == 11)) else (novationref10_NextStatus.j1 k x0 x1 false))
def novationref10_NextStatus.j1 : Nat → Int → Int → Bool → Option (Int × Bool)
  | 0, _, _, _ => none
  | k + 1, x0, x1, x13 => if x13 = true then (some (2, true)) else (if x0 = 2 then (novationref10_NextStatus.j2 k x0 x1 (x1 == 12)) else (novationref10_NextStatus.j2 k x0 x1 false))
def novationref10_NextStatus.j2 : Nat → Int → Int → Bool → Option (Int × Bool)
  | 0, _, _, _ => none
  | k + 1, x0, x1, x20 => if x20 = true then (some (1, true)) else (if x0 = 2 then (novationref10_NextStatus.j3 k x0 x1 (x1 == 13)) else (novationref10_NextStatus.j3 k x0 x1 false))
def novationref10_NextStatus.j3 : Nat → Int → Int → Bool → Option (Int × Bool)
  | 0, _, _, _ => none
  | k + 1, x0, x1, x27 => if x27 = true then (some (3, true)) else (if x0 = 3 then (if x1 = 21 then (some (4, true)) else (some (0, false))) else (some (0, false)))
end
def novationref10_NextStatus.f (k : Nat) (a0 : Int) (a1 : Int) : Option (Int × Bool) := if a0 = 0 then (novationref10_NextStatus.j0 k a0 a1 (a1 == 1)) else (novationref10_NextStatus.j0 k a0 a1 false)
theorem novationref10_NextStatus.mono_l : ∀ k, (∀ y0 y1 y2, LeO (novationref10_NextStatus.j0 k y0 y1 y2) (novationref10_NextStatus.j0 (k + 1) y0 y1 y2)) ∧ (∀ y0 y1 y2, LeO (novationref10_NextStatus.j1 k y0 y1 y2) (novationref10_NextStatus.j1 (k + 1) y0 y1 y2)) ∧ (∀ y0 y1 y2, LeO (novationref10_NextStatus.j2 k y0 y1 y2) (novationref10_NextStatus.j2 (k + 1) y0 y1 y2)) ∧ (∀ y0 y1 y2, LeO (novationref10_NextStatus.j3 k y0 y1 y2) (novationref10_NextStatus.j3 (k + 1) y0 y1 y2))
  | 0 => ⟨fun _ _ _ r h => by simp [novationref10_NextStatus.j0] at h, fun _ _ _ r h => by simp [novationref10_NextStatus.j1] at h, fun _ _ _ r h => by simp [novationref10_NextStatus.j2] at h, fun _ _ _ r h => by simp [novationref10_NextStatus.j3] at h⟩
  | k + 1 => by
    obtain ⟨ih0, ih1, ih2, ih3⟩ := novationref10_NextStatus.mono_l k
    refine ⟨?_, ?_, ?_, ?_⟩
    · intro y0 y1 y2
      unfold novationref10_NextStatus.j0
      repeat' first
      | (with_reducible exact ih0 _ _ _)
      | (with_reducible exact ih1 _ _ _)
      | (with_reducible exact ih2 _ _ _)
      | (with_reducible exact ih3 _ _ _)
      | (with_reducible exact LeO.refl _)
      | (with_reducible exact LeO.none _)
      | (with_reducible refine LeO.ite ?_ ?_)
      | (with_reducible refine LeO.bind ?_ (fun _ => ?_))
      | exact ih0 _ _ _
      | exact ih1 _ _ _
      | exact ih2 _ _ _
      | exact ih3 _ _ _
      | exact LeO.none _
      | refine LeO.ite ?_ ?_
      | refine LeO.bind ?_ (fun _ => ?_)
    · intro y0 y1 y2
      unfold novationref10_NextStatus.j1
      repeat' first
      | (with_reducible exact ih0 _ _ _)
      | (with_reducible exact ih1 _ _ _)
      | (with_reducible exact ih2 _ _ _)
      | (with_reducible exact ih3 _ _ _)
      | (with_reducible exact LeO.refl _)
      | (with_reducible exact LeO.none _)
      | (with_reducible refine LeO.ite ?_ ?_)
      | (with_reducible refine LeO.bind ?_ (fun _ => ?_))
      | exact ih0 _ _ _
      | exact ih1 _ _ _
      | exact ih2 _ _ _
      | exact ih3 _ _ _
      | exact LeO.none _
      | refine LeO.ite ?_ ?_
      | refine LeO.bind ?_ (fun _ => ?_)
    · intro y0 y1 y2
      unfold novationref10_NextStatus.j2
      repeat' first
      | (with_reducible exact ih0 _ _ _)
      | (with_reducible exact ih1 _ _ _)
      | (with_reducible exact ih2 _ _ _)
      | (with_reducible exact ih3 _ _ _)
      | (with_reducible exact LeO.refl _)
      | (with_reducible exact LeO.none _)
      | (with_reducible refine LeO.ite ?_ ?_)
      | (with_reducible refine LeO.bind ?_ (fun _ => ?_))
      | exact ih0 _ _ _
      | exact ih1 _ _ _
      | exact ih2 _ _ _
      | exact ih3 _ _ _
      | exact LeO.none _
      | refine LeO.ite ?_ ?_
      | refine LeO.bind ?_ (fun _ => ?_)
    · intro y0 y1 y2
      unfold novationref10_NextStatus.j3
      repeat' first
      | (with_reducible exact ih0 _ _ _)
      | (with_reducible exact ih1 _ _ _)
      | (with_reducible exact ih2 _ _ _)
      | (with_reducible exact ih3 _ _ _)
      | (with_reducible exact LeO.refl _)
      | (with_reducible exact LeO.none _)
      | (with_reducible refine LeO.ite ?_ ?_)
      | (with_reducible refine LeO.bind ?_ (fun _ => ?_))
      | exact ih0 _ _ _
      | exact ih1 _ _ _
      | exact ih2 _ _ _
      | exact ih3 _ _ _
      | exact LeO.none _
      | refine LeO.ite ?_ ?_
      | refine LeO.bind ?_ (fun _ => ?_)
theorem novationref10_NextStatus.mono : ∀ a0 a1 k, LeO (novationref10_NextStatus.f k a0 a1) (novationref10_NextStatus.f (k + 1) a0 a1) := by
  intro a0 a1 k
  obtain ⟨ih0, ih1, ih2, ih3⟩ := novationref10_NextStatus.mono_l k
  unfold novationref10_NextStatus.f
  repeat' first
      | (with_reducible exact ih0 _ _ _)
      | (with_reducible exact ih1 _ _ _)
      | (with_reducible exact ih2 _ _ _)
      | (with_reducible exact ih3 _ _ _)
      | (with_reducible exact LeO.refl _)
      | (with_reducible exact LeO.none _)
      | (with_reducible refine LeO.ite ?_ ?_)
      | (with_reducible refine LeO.bind ?_ (fun _ => ?_))
      | exact ih0 _ _ _
      | exact ih1 _ _ _
      | exact ih2 _ _ _
      | exact ih3 _ _ _
      | exact LeO.none _
      | refine LeO.ite ?_ ?_
      | refine LeO.bind ?_ (fun _ => ?_)
set_option maxHeartbeats 8000000 in
set_option maxRecDepth 100000 in
theorem novationref10_NextStatus.calls (k : Nat) (a0 : Int) (a1 : Int) (r1 : Int) (r2 : Bool) (w : World) (h : novationref10_NextStatus.f k a0 a1 = some (r1, r2)) :
    Calls Try.prog 9 #[.int .i64 a0, .int .i64 a1] w fun e w' => e = .returned (.tuple #[.int .i64 r1, .bool r2]) ∧ Drawn0 w w' := by
  have H : (if a0 = 0 then (novationref10_NextStatus.j0 k a0 a1 (a1 == 1)) else (novationref10_NextStatus.j0 k a0 a1 false)) = some (r1, r2) := h
  clear h
  have HC3 := Aside0.mk H
  clear H
  go_enter Try.func9, Try.ntmps9
  go_upto_region 1 with (fail)
  go_cut [6] (fun v6 wc => ∃ (kq : Nat) (x6_2 : Bool), v6 = .bool x6_2 ∧ Aside0 (novationref10_NextStatus.j0 kq a0 a1 x6_2 = some (r1, r2)) ∧ Aside0 (kq ≤ k) ∧ Drawn0 w wc)
  case first =>
    have H := HC3.out
    clear HC3
    by_cases c4 : a0 = 0
    · rw [if_pos c4] at H
      have c4b0 : (a0 == 0) = true := beq_iff_eq.mpr c4
      have c4b1 : (a0 != 0) = false := bne_eq_false_iff_eq.mpr c4
      clear c4
      (first | rw [c4b0] | (simp only [i64_w, i32_w]; rw [c4b0]) | skip)
      have H' := Aside0.mk H
      clear H
      go_wp2
      go_meet
      case rel => exact ⟨_, ((a1 == 1)), (by first | rfl | (simp; done) | (simp [*]; done)), H', ⟨by first | omega | exact Nat.le_refl _⟩, by repeat (first | exact Drawn0.refl _ | apply Drawn0.step)⟩
    · rw [if_neg c4] at H
      have c4b0 : (a0 == 0) = false := beq_eq_false_iff_ne.mpr c4
      have c4b1 : (a0 != 0) = true := bne_iff_ne.mpr c4
      (first | rw [c4b0] | (simp only [i64_w, i32_w]; rw [c4b0]) | skip)
      have H' := Aside0.mk H
      clear H
      go_wp2
      go_meet
      case rel => exact ⟨_, (false), (by first | rfl | (simp; done) | (simp [*]; done)), H', ⟨by first | omega | exact Nat.le_refl _⟩, by repeat (first | exact Drawn0.refl _ | apply Drawn0.step)⟩
  case rest =>
    clear HC3
    try clear p2
    try clear c4
    try clear c4b0
    try clear c4b1
    obtain ⟨kq, x6_2, rfl, HA, HJ2, ⟨mc2, rfl⟩⟩ := hcut
    cases kq with
    | zero => exact absurd HA.out (by simp [novationref10_NextStatus.j0])
    | succ kj2 =>
      have H := HA.out
      clear HA
      simp only [novationref10_NextStatus.j0] at H
      by_cases c5 : x6_2 = true
      · subst c5
        have H1 : (some (1, true)) = some (r1, r2) := by rw [if_pos rfl] at H; exact H
        clear H
        have H := H1
        clear H1
        simp only [Option.some.injEq, Prod.mk.injEq] at H
        obtain ⟨rfl, rfl⟩ := H
        go_wp2
        go_ret2
        exact ⟨by first | rfl | (simp; done) | (simp [*]; done), by repeat (first | exact Drawn0.refl _ | apply Drawn0.step)⟩
      · replace c5 := Bool.eq_false_iff.mpr c5
        subst c5
        have H1 : (if a0 = 1 then (novationref10_NextStatus.j1 kj2 a0 a1 (a1 == 11)) else (novationref10_NextStatus.j1 kj2 a0 a1 false)) = some (r1, r2) := by rw [if_neg (show ¬ (false = true) by decide)] at H; exact H
        clear H
        have H := H1
        clear H1
        have HC6 := Aside0.mk H
        clear H
        go_upto_region 3 with (fail)
        go_cut [13] (fun v13 wc => ∃ (kq : Nat) (x13_5 : Bool), v13 = .bool x13_5 ∧ Aside0 (novationref10_NextStatus.j1 kq a0 a1 x13_5 = some (r1, r2)) ∧ Aside0 (kq ≤ kj2) ∧ Drawn0 w wc)
        case first =>
          have H := HC6.out
          clear HC6
          by_cases c7 : a0 = 1
          · rw [if_pos c7] at H
            have c7b0 : (a0 == 1) = true := beq_iff_eq.mpr c7
            have c7b1 : (a0 != 1) = false := bne_eq_false_iff_eq.mpr c7
            clear c7
            (first | rw [c7b0] | (simp only [i64_w, i32_w]; rw [c7b0]) | skip)
            have H' := Aside0.mk H
            clear H
            go_wp2
            go_meet
            case rel => exact ⟨_, ((a1 == 11)), (by first | rfl | (simp; done) | (simp [*]; done)), H', ⟨by have := HJ2.out; first | omega | exact Nat.le_refl _⟩, by repeat (first | exact Drawn0.refl _ | apply Drawn0.step)⟩
          · rw [if_neg c7] at H
            have c7b0 : (a0 == 1) = false := beq_eq_false_iff_ne.mpr c7
            have c7b1 : (a0 != 1) = true := bne_iff_ne.mpr c7
            (first | rw [c7b0] | (simp only [i64_w, i32_w]; rw [c7b0]) | skip)
            have H' := Aside0.mk H
            clear H
            go_wp2
            go_meet
            case rel => exact ⟨_, (false), (by first | rfl | (simp; done) | (simp [*]; done)), H', ⟨by have := HJ2.out; first | omega | exact Nat.le_refl _⟩, by repeat (first | exact Drawn0.refl _ | apply Drawn0.step)⟩
        case rest =>
          clear HC6
          try clear c2
          try clear p2
          try clear c4
          try clear c4b0
          try clear c4b1
          try clear c5
          try clear c7
          try clear c7b0
          try clear c7b1
          try clear p2
          obtain ⟨kq, x13_5, rfl, HA, HJ5, ⟨mc5, rfl⟩⟩ := hcut
          cases kq with
          | zero => exact absurd HA.out (by simp [novationref10_NextStatus.j1])
          | succ kj5 =>
            have H := HA.out
            clear HA
            simp only [novationref10_NextStatus.j1] at H
            by_cases c8 : x13_5 = true
            · subst c8
              have H1 : (some (2, true)) = some (r1, r2) := by rw [if_pos rfl] at H; exact H
              clear H
              have H := H1
              clear H1
              simp only [Option.some.injEq, Prod.mk.injEq] at H
              obtain ⟨rfl, rfl⟩ := H
              go_wp2
              go_ret2
              exact ⟨by first | rfl | (simp; done) | (simp [*]; done), by repeat (first | exact Drawn0.refl _ | apply Drawn0.step)⟩
            · replace c8 := Bool.eq_false_iff.mpr c8
              subst c8
              have H1 : (if a0 = 2 then (novationref10_NextStatus.j2 kj5 a0 a1 (a1 == 12)) else (novationref10_NextStatus.j2 kj5 a0 a1 false)) = some (r1, r2) := by rw [if_neg (show ¬ (false = true) by decide)] at H; exact H
              clear H
              have H := H1
              clear H1
              have HC9 := Aside0.mk H
              clear H
              go_upto_region 5 with (fail)
              go_cut [20] (fun v20 wc => ∃ (kq : Nat) (x20_8 : Bool), v20 = .bool x20_8 ∧ Aside0 (novationref10_NextStatus.j2 kq a0 a1 x20_8 = some (r1, r2)) ∧ Aside0 (kq ≤ kj5) ∧ Drawn0 w wc)
              case first =>
                have H := HC9.out
                clear HC9
                by_cases c10 : a0 = 2
                · rw [if_pos c10] at H
                  have c10b0 : (a0 == 2) = true := beq_iff_eq.mpr c10
                  have c10b1 : (a0 != 2) = false := bne_eq_false_iff_eq.mpr c10
                  clear c10
                  (first | rw [c10b0] | (simp only [i64_w, i32_w]; rw [c10b0]) | skip)
                  have H' := Aside0.mk H
                  clear H
                  go_wp2
                  go_meet
                  case rel => exact ⟨_, ((a1 == 12)), (by first | rfl | (simp; done) | (simp [*]; done)), H', ⟨by have := HJ2.out; have := HJ5.out; first | omega | exact Nat.le_refl _⟩, by repeat (first | exact Drawn0.refl _ | apply Drawn0.step)⟩
                · rw [if_neg c10] at H
                  have c10b0 : (a0 == 2) = false := beq_eq_false_iff_ne.mpr c10
                  have c10b1 : (a0 != 2) = true := bne_iff_ne.mpr c10
                  (first | rw [c10b0] | (simp only [i64_w, i32_w]; rw [c10b0]) | skip)
                  have H' := Aside0.mk H
                  clear H
                  go_wp2
                  go_meet
                  case rel => exact ⟨_, (false), (by first | rfl | (simp; done) | (simp [*]; done)), H', ⟨by have := HJ2.out; have := HJ5.out; first | omega | exact Nat.le_refl _⟩, by repeat (first | exact Drawn0.refl _ | apply Drawn0.step)⟩
              case rest =>
                clear HC9
                try clear c1
                try clear c2
                try clear p2
                try clear c4
                try clear c4b0
                try clear c4b1
                try clear c5
                try clear c7
                try clear c7b0
                try clear c7b1
                try clear c8
                try clear c9
                try clear c10
                try clear c10b0
                try clear c10b1
                try clear p2
                obtain ⟨kq, x20_8, rfl, HA, HJ8, ⟨mc8, rfl⟩⟩ := hcut
                cases kq with
                | zero => exact absurd HA.out (by simp [novationref10_NextStatus.j2])
                | succ kj8 =>
                  have H := HA.out
                  clear HA
                  simp only [novationref10_NextStatus.j2] at H
                  by_cases c11 : x20_8 = true
                  · subst c11
                    have H1 : (some (1, true)) = some (r1, r2) := by rw [if_pos rfl] at H; exact H
                    clear H
                    have H := H1
                    clear H1
                    simp only [Option.some.injEq, Prod.mk.injEq] at H
                    obtain ⟨rfl, rfl⟩ := H
                    go_wp2
                    go_ret2
                    exact ⟨by first | rfl | (simp; done) | (simp [*]; done), by repeat (first | exact Drawn0.refl _ | apply Drawn0.step)⟩
                  · replace c11 := Bool.eq_false_iff.mpr c11
                    subst c11
                    have H1 : (if a0 = 2 then (novationref10_NextStatus.j3 kj8 a0 a1 (a1 == 13)) else (novationref10_NextStatus.j3 kj8 a0 a1 false)) = some (r1, r2) := by rw [if_neg (show ¬ (false = true) by decide)] at H; exact H
                    clear H
                    have H := H1
                    clear H1
                    have HC12 := Aside0.mk H
                    clear H
                    go_upto_region 7 with (fail)
                    go_cut [27] (fun v27 wc => ∃ (kq : Nat) (x27_11 : Bool), v27 = .bool x27_11 ∧ Aside0 (novationref10_NextStatus.j3 kq a0 a1 x27_11 = some (r1, r2)) ∧ Aside0 (kq ≤ kj8) ∧ Drawn0 w wc)
                    case first =>
                      have H := HC12.out
                      clear HC12
                      by_cases c13 : a0 = 2
                      · rw [if_pos c13] at H
                        have c13b0 : (a0 == 2) = true := beq_iff_eq.mpr c13
                        have c13b1 : (a0 != 2) = false := bne_eq_false_iff_eq.mpr c13
                        clear c13
                        (first | rw [c13b0] | (simp only [i64_w, i32_w]; rw [c13b0]) | skip)
                        have H' := Aside0.mk H
                        clear H
                        go_wp2
                        go_meet
                        case rel => exact ⟨_, ((a1 == 13)), (by first | rfl | (simp; done) | (simp [*]; done)), H', ⟨by have := HJ2.out; have := HJ5.out; have := HJ8.out; first | omega | exact Nat.le_refl _⟩, by repeat (first | exact Drawn0.refl _ | apply Drawn0.step)⟩
                      · rw [if_neg c13] at H
                        have c13b0 : (a0 == 2) = false := beq_eq_false_iff_ne.mpr c13
                        have c13b1 : (a0 != 2) = true := bne_iff_ne.mpr c13
                        (first | rw [c13b0] | (simp only [i64_w, i32_w]; rw [c13b0]) | skip)
                        have H' := Aside0.mk H
                        clear H
                        go_wp2
                        go_meet
                        case rel => exact ⟨_, (false), (by first | rfl | (simp; done) | (simp [*]; done)), H', ⟨by have := HJ2.out; have := HJ5.out; have := HJ8.out; first | omega | exact Nat.le_refl _⟩, by repeat (first | exact Drawn0.refl _ | apply Drawn0.step)⟩
                    case rest =>
                      clear HC12
                      try clear c1
                      try clear c2
                      try clear p2
                      try clear c4
                      try clear c4b0
                      try clear c4b1
                      try clear c5
                      try clear c7
                      try clear c7b0
                      try clear c7b1
                      try clear c8
                      try clear c9
                      try clear c10
                      try clear c10b0
                      try clear c10b1
                      try clear c11
                      try clear c13
                      try clear c13b0
                      try clear c13b1
                      try clear p2
                      obtain ⟨kq, x27_11, rfl, HA, HJ11, ⟨mc11, rfl⟩⟩ := hcut
                      cases kq with
                      | zero => exact absurd HA.out (by simp [novationref10_NextStatus.j3])
                      | succ kj11 =>
                        have H := HA.out
                        clear HA
                        simp only [novationref10_NextStatus.j3] at H
                        by_cases c14 : x27_11 = true
                        · subst c14
                          have H1 : (some (3, true)) = some (r1, r2) := by rw [if_pos rfl] at H; exact H
                          clear H
                          have H := H1
                          clear H1
                          simp only [Option.some.injEq, Prod.mk.injEq] at H
                          obtain ⟨rfl, rfl⟩ := H
                          go_wp2
                          go_ret2
                          exact ⟨by first | rfl | (simp; done) | (simp [*]; done), by repeat (first | exact Drawn0.refl _ | apply Drawn0.step)⟩
                        · replace c14 := Bool.eq_false_iff.mpr c14
                          subst c14
                          have H1 : (if a0 = 3 then (if a1 = 21 then (some (4, true)) else (some (0, false))) else (some (0, false))) = some (r1, r2) := by rw [if_neg (show ¬ (false = true) by decide)] at H; exact H
                          clear H
                          have H := H1
                          clear H1
                          by_cases c15 : a0 = 3
                          · rw [if_pos c15] at H
                            have c15b0 : (a0 == 3) = true := beq_iff_eq.mpr c15
                            have c15b1 : (a0 != 3) = false := bne_eq_false_iff_eq.mpr c15
                            clear c15
                            by_cases c16 : a1 = 21
                            · rw [if_pos c16] at H
                              have c16b0 : (a1 == 21) = true := beq_iff_eq.mpr c16
                              have c16b1 : (a1 != 21) = false := bne_eq_false_iff_eq.mpr c16
                              clear c16
                              simp only [Option.some.injEq, Prod.mk.injEq] at H
                              obtain ⟨rfl, rfl⟩ := H
                              go_wp2
                              go_ret2
                              exact ⟨by first | rfl | (simp; done) | (simp [*]; done), by repeat (first | exact Drawn0.refl _ | apply Drawn0.step)⟩
                            · rw [if_neg c16] at H
                              have c16b0 : (a1 == 21) = false := beq_eq_false_iff_ne.mpr c16
                              have c16b1 : (a1 != 21) = true := bne_iff_ne.mpr c16
                              simp only [Option.some.injEq, Prod.mk.injEq] at H
                              obtain ⟨rfl, rfl⟩ := H
                              go_wp2
                              go_ret2
                              exact ⟨by first | rfl | (simp; done) | (simp [*]; done), by repeat (first | exact Drawn0.refl _ | apply Drawn0.step)⟩
                          · rw [if_neg c15] at H
                            have c15b0 : (a0 == 3) = false := beq_eq_false_iff_ne.mpr c15
                            have c15b1 : (a0 != 3) = true := bne_iff_ne.mpr c15
                            simp only [Option.some.injEq, Prod.mk.injEq] at H
                            obtain ⟨rfl, rfl⟩ := H
                            go_wp2
                            go_ret2
                            exact ⟨by first | rfl | (simp; done) | (simp [*]; done), by repeat (first | exact Drawn0.refl _ | apply Drawn0.step)⟩

/-! ### novationref10_Live: function 11 -/
def novationref10_Live.f (a0 : Int) : Option (Bool) := if a0 = 1 then (some true) else (some (a0 == 2))
set_option maxHeartbeats 8000000 in
set_option maxRecDepth 100000 in
theorem novationref10_Live.calls (a0 : Int) (r : Bool) (w : World) (h : novationref10_Live.f a0 = some r) :
    Calls Try.prog 11 #[.int .i64 a0] w fun e w' => e = .returned (.bool r) ∧ Drawn0 w w' := by
  have H : (if a0 = 1 then (some true) else (some (a0 == 2))) = some r := h
  clear h
  by_cases c2 : a0 = 1
  · rw [if_pos c2] at H
    have c2b0 : (a0 == 1) = true := beq_iff_eq.mpr c2
    have c2b1 : (a0 != 1) = false := bne_eq_false_iff_eq.mpr c2
    clear c2
    obtain rfl := Option.some.inj H
    go_enter Try.func11, Try.ntmps11
    go_wp2
    go_ret
    exact ⟨by first | rfl | (simp; done) | (simp [*]; done), by repeat (first | exact Drawn0.refl _ | apply Drawn0.step)⟩
  · rw [if_neg c2] at H
    have c2b0 : (a0 == 1) = false := beq_eq_false_iff_ne.mpr c2
    have c2b1 : (a0 != 1) = true := bne_iff_ne.mpr c2
    obtain rfl := Option.some.inj H
    go_enter Try.func11, Try.ntmps11
    go_wp2
    go_ret
    exact ⟨by first | rfl | (simp; done) | (simp [*]; done), by repeat (first | exact Drawn0.refl _ | apply Drawn0.step)⟩

/-! ### novationlaw10_StandingAll: function 3 -/
def novationlaw10_StandingAll.f (k : Nat) (a0 : Int) (a1 : Int) : Option (Bool) := (novationlaw10_known.f k).bind fun t116 => (if t116 = true then ((standing_Next.f k a0 a1).bind fun bt117 => ((novationref10_NextStatus.f k a0 a1).bind fun bt119 => (if a0 = 1 then (if bt117.1 = bt119.1 then (if (bt117.2 == bt119.2) = true then ((standing_Live.f a0).bind fun t121 => ((novationref10_Live.f a0).bind fun t122 => (if (t121 == t122) = true then ((standing_Name.f a0).bind fun t123 => (some (t123.toList == ([97, 99, 116, 105, 118, 101] : List UInt8)))) else (some false)))) else (some false)) else (some false)) else (if a0 = 2 then (if bt117.1 = bt119.1 then (if (bt117.2 == bt119.2) = true then ((standing_Live.f a0).bind fun t124 => ((novationref10_Live.f a0).bind fun t125 => (if (t124 == t125) = true then ((standing_Name.f a0).bind fun t126 => (some (t126.toList == ([115, 117, 115, 112, 101, 110, 100, 101, 100] : List UInt8)))) else (some false)))) else (some false)) else (some false)) else (if a0 = 3 then (if bt117.1 = bt119.1 then (if (bt117.2 == bt119.2) = true then ((standing_Live.f a0).bind fun t127 => ((novationref10_Live.f a0).bind fun t128 => (if (t127 == t128) = true then ((standing_Name.f a0).bind fun t129 => (some (t129.toList == ([100, 101, 102, 97, 117, 108, 116, 101, 100] : List UInt8)))) else (some false)))) else (some false)) else (some false)) else (if a0 = 4 then (if bt117.1 = bt119.1 then (if (bt117.2 == bt119.2) = true then ((standing_Live.f a0).bind fun t130 => ((novationref10_Live.f a0).bind fun t131 => (if (t130 == t131) = true then ((standing_Name.f a0).bind fun t132 => (some (t132.toList == ([99, 108, 111, 115, 101, 100] : List UInt8)))) else (some false)))) else (some false)) else (some false)) else (if bt117.1 = bt119.1 then (if (bt117.2 == bt119.2) = true then ((standing_Live.f a0).bind fun t133 => ((novationref10_Live.f a0).bind fun t134 => (if (t133 == t134) = true then ((standing_Name.f a0).bind fun t135 => (some (t135.toList == ([] : List UInt8)))) else (some false)))) else (some false)) else (some false)))))))) else (some false))
theorem novationlaw10_StandingAll.mono : ∀ a0 a1 k, LeO (novationlaw10_StandingAll.f k a0 a1) (novationlaw10_StandingAll.f (k + 1) a0 a1) := by
  intro a0 a1 k
  unfold novationlaw10_StandingAll.f
  repeat' first
      | (with_reducible exact novationlaw10_known.mono _)
      | (with_reducible exact novationref10_NextStatus.mono _ _ _)
      | (with_reducible exact standing_Next.mono _ _ _)
      | (with_reducible exact LeO.refl _)
      | (with_reducible exact LeO.none _)
      | (with_reducible refine LeO.ite ?_ ?_)
      | (with_reducible refine LeO.bind ?_ (fun _ => ?_))
      | exact novationlaw10_known.mono _
      | exact novationref10_NextStatus.mono _ _ _
      | exact standing_Next.mono _ _ _
      | exact LeO.none _
      | refine LeO.ite ?_ ?_
      | refine LeO.bind ?_ (fun _ => ?_)
set_option maxHeartbeats 8000000 in
set_option maxRecDepth 100000 in
theorem novationlaw10_StandingAll.calls (k : Nat) (a0 : Int) (a1 : Int) (r : Bool) (w : World) (h : novationlaw10_StandingAll.f k a0 a1 = some r) :
    Calls Try.prog 3 #[.int .i64 a0, .int .i64 a1] w fun e w' => e = .returned (.bool r) ∧ Below w.heap.size w w' := by
  have HB := Aside0.mk (Below.refl w.heap.size w)
  have H : ((novationlaw10_known.f k).bind fun t116 => (if t116 = true then ((standing_Next.f k a0 a1).bind fun bt117 => ((novationref10_NextStatus.f k a0 a1).bind fun bt119 => (if a0 = 1 then (if bt117.1 = bt119.1 then (if (bt117.2 == bt119.2) = true then ((standing_Live.f a0).bind fun t121 => ((novationref10_Live.f a0).bind fun t122 => (if (t121 == t122) = true then ((standing_Name.f a0).bind fun t123 => (some (t123.toList == ([97, 99, 116, 105, 118, 101] : List UInt8)))) else (some false)))) else (some false)) else (some false)) else (if a0 = 2 then (if bt117.1 = bt119.1 then (if (bt117.2 == bt119.2) = true then ((standing_Live.f a0).bind fun t124 => ((novationref10_Live.f a0).bind fun t125 => (if (t124 == t125) = true then ((standing_Name.f a0).bind fun t126 => (some (t126.toList == ([115, 117, 115, 112, 101, 110, 100, 101, 100] : List UInt8)))) else (some false)))) else (some false)) else (some false)) else (if a0 = 3 then (if bt117.1 = bt119.1 then (if (bt117.2 == bt119.2) = true then ((standing_Live.f a0).bind fun t127 => ((novationref10_Live.f a0).bind fun t128 => (if (t127 == t128) = true then ((standing_Name.f a0).bind fun t129 => (some (t129.toList == ([100, 101, 102, 97, 117, 108, 116, 101, 100] : List UInt8)))) else (some false)))) else (some false)) else (some false)) else (if a0 = 4 then (if bt117.1 = bt119.1 then (if (bt117.2 == bt119.2) = true then ((standing_Live.f a0).bind fun t130 => ((novationref10_Live.f a0).bind fun t131 => (if (t130 == t131) = true then ((standing_Name.f a0).bind fun t132 => (some (t132.toList == ([99, 108, 111, 115, 101, 100] : List UInt8)))) else (some false)))) else (some false)) else (some false)) else (if bt117.1 = bt119.1 then (if (bt117.2 == bt119.2) = true then ((standing_Live.f a0).bind fun t133 => ((novationref10_Live.f a0).bind fun t134 => (if (t133 == t134) = true then ((standing_Name.f a0).bind fun t135 => (some (t135.toList == ([] : List UInt8)))) else (some false)))) else (some false)) else (some false)))))))) else (some false))) = some r := h
  clear h
  replace H := Option.bind_eq_some_iff.mp H
  obtain ⟨t116, A30, H⟩ := H
  replace H : (if t116 = true then ((standing_Next.f k a0 a1).bind fun bt117 => ((novationref10_NextStatus.f k a0 a1).bind fun bt119 => (if a0 = 1 then (if bt117.1 = bt119.1 then (if (bt117.2 == bt119.2) = true then ((standing_Live.f a0).bind fun t121 => ((novationref10_Live.f a0).bind fun t122 => (if (t121 == t122) = true then ((standing_Name.f a0).bind fun t123 => (some (t123.toList == ([97, 99, 116, 105, 118, 101] : List UInt8)))) else (some false)))) else (some false)) else (some false)) else (if a0 = 2 then (if bt117.1 = bt119.1 then (if (bt117.2 == bt119.2) = true then ((standing_Live.f a0).bind fun t124 => ((novationref10_Live.f a0).bind fun t125 => (if (t124 == t125) = true then ((standing_Name.f a0).bind fun t126 => (some (t126.toList == ([115, 117, 115, 112, 101, 110, 100, 101, 100] : List UInt8)))) else (some false)))) else (some false)) else (some false)) else (if a0 = 3 then (if bt117.1 = bt119.1 then (if (bt117.2 == bt119.2) = true then ((standing_Live.f a0).bind fun t127 => ((novationref10_Live.f a0).bind fun t128 => (if (t127 == t128) = true then ((standing_Name.f a0).bind fun t129 => (some (t129.toList == ([100, 101, 102, 97, 117, 108, 116, 101, 100] : List UInt8)))) else (some false)))) else (some false)) else (some false)) else (if a0 = 4 then (if bt117.1 = bt119.1 then (if (bt117.2 == bt119.2) = true then ((standing_Live.f a0).bind fun t130 => ((novationref10_Live.f a0).bind fun t131 => (if (t130 == t131) = true then ((standing_Name.f a0).bind fun t132 => (some (t132.toList == ([99, 108, 111, 115, 101, 100] : List UInt8)))) else (some false)))) else (some false)) else (some false)) else (if bt117.1 = bt119.1 then (if (bt117.2 == bt119.2) = true then ((standing_Live.f a0).bind fun t133 => ((novationref10_Live.f a0).bind fun t134 => (if (t133 == t134) = true then ((standing_Name.f a0).bind fun t135 => (some (t135.toList == ([] : List UInt8)))) else (some false)))) else (some false)) else (some false)))))))) else (some false)) = some r := H
  have A3 := Aside0.mk A30
  clear A30
  by_cases c4 : t116 = true
  · subst c4
    have H1 : ((standing_Next.f k a0 a1).bind fun bt117 => ((novationref10_NextStatus.f k a0 a1).bind fun bt119 => (if a0 = 1 then (if bt117.1 = bt119.1 then (if (bt117.2 == bt119.2) = true then ((standing_Live.f a0).bind fun t121 => ((novationref10_Live.f a0).bind fun t122 => (if (t121 == t122) = true then ((standing_Name.f a0).bind fun t123 => (some (t123.toList == ([97, 99, 116, 105, 118, 101] : List UInt8)))) else (some false)))) else (some false)) else (some false)) else (if a0 = 2 then (if bt117.1 = bt119.1 then (if (bt117.2 == bt119.2) = true then ((standing_Live.f a0).bind fun t124 => ((novationref10_Live.f a0).bind fun t125 => (if (t124 == t125) = true then ((standing_Name.f a0).bind fun t126 => (some (t126.toList == ([115, 117, 115, 112, 101, 110, 100, 101, 100] : List UInt8)))) else (some false)))) else (some false)) else (some false)) else (if a0 = 3 then (if bt117.1 = bt119.1 then (if (bt117.2 == bt119.2) = true then ((standing_Live.f a0).bind fun t127 => ((novationref10_Live.f a0).bind fun t128 => (if (t127 == t128) = true then ((standing_Name.f a0).bind fun t129 => (some (t129.toList == ([100, 101, 102, 97, 117, 108, 116, 101, 100] : List UInt8)))) else (some false)))) else (some false)) else (some false)) else (if a0 = 4 then (if bt117.1 = bt119.1 then (if (bt117.2 == bt119.2) = true then ((standing_Live.f a0).bind fun t130 => ((novationref10_Live.f a0).bind fun t131 => (if (t130 == t131) = true then ((standing_Name.f a0).bind fun t132 => (some (t132.toList == ([99, 108, 111, 115, 101, 100] : List UInt8)))) else (some false)))) else (some false)) else (some false)) else (if bt117.1 = bt119.1 then (if (bt117.2 == bt119.2) = true then ((standing_Live.f a0).bind fun t133 => ((novationref10_Live.f a0).bind fun t134 => (if (t133 == t134) = true then ((standing_Name.f a0).bind fun t135 => (some (t135.toList == ([] : List UInt8)))) else (some false)))) else (some false)) else (some false)))))))) = some r := by rw [if_pos rfl] at H; exact H
    clear H
    have H := H1
    clear H1
    replace H := Option.bind_eq_some_iff.mp H
    obtain ⟨⟨t117, t118⟩, A50, H⟩ := H
    replace H : ((novationref10_NextStatus.f k a0 a1).bind fun bt119 => (if a0 = 1 then (if t117 = bt119.1 then (if (t118 == bt119.2) = true then ((standing_Live.f a0).bind fun t121 => ((novationref10_Live.f a0).bind fun t122 => (if (t121 == t122) = true then ((standing_Name.f a0).bind fun t123 => (some (t123.toList == ([97, 99, 116, 105, 118, 101] : List UInt8)))) else (some false)))) else (some false)) else (some false)) else (if a0 = 2 then (if t117 = bt119.1 then (if (t118 == bt119.2) = true then ((standing_Live.f a0).bind fun t124 => ((novationref10_Live.f a0).bind fun t125 => (if (t124 == t125) = true then ((standing_Name.f a0).bind fun t126 => (some (t126.toList == ([115, 117, 115, 112, 101, 110, 100, 101, 100] : List UInt8)))) else (some false)))) else (some false)) else (some false)) else (if a0 = 3 then (if t117 = bt119.1 then (if (t118 == bt119.2) = true then ((standing_Live.f a0).bind fun t127 => ((novationref10_Live.f a0).bind fun t128 => (if (t127 == t128) = true then ((standing_Name.f a0).bind fun t129 => (some (t129.toList == ([100, 101, 102, 97, 117, 108, 116, 101, 100] : List UInt8)))) else (some false)))) else (some false)) else (some false)) else (if a0 = 4 then (if t117 = bt119.1 then (if (t118 == bt119.2) = true then ((standing_Live.f a0).bind fun t130 => ((novationref10_Live.f a0).bind fun t131 => (if (t130 == t131) = true then ((standing_Name.f a0).bind fun t132 => (some (t132.toList == ([99, 108, 111, 115, 101, 100] : List UInt8)))) else (some false)))) else (some false)) else (some false)) else (if t117 = bt119.1 then (if (t118 == bt119.2) = true then ((standing_Live.f a0).bind fun t133 => ((novationref10_Live.f a0).bind fun t134 => (if (t133 == t134) = true then ((standing_Name.f a0).bind fun t135 => (some (t135.toList == ([] : List UInt8)))) else (some false)))) else (some false)) else (some false))))))) = some r := H
    have A5 := Aside0.mk A50
    clear A50
    replace H := Option.bind_eq_some_iff.mp H
    obtain ⟨⟨t119, t120⟩, A60, H⟩ := H
    replace H : (if a0 = 1 then (if t117 = t119 then (if (t118 == t120) = true then ((standing_Live.f a0).bind fun t121 => ((novationref10_Live.f a0).bind fun t122 => (if (t121 == t122) = true then ((standing_Name.f a0).bind fun t123 => (some (t123.toList == ([97, 99, 116, 105, 118, 101] : List UInt8)))) else (some false)))) else (some false)) else (some false)) else (if a0 = 2 then (if t117 = t119 then (if (t118 == t120) = true then ((standing_Live.f a0).bind fun t124 => ((novationref10_Live.f a0).bind fun t125 => (if (t124 == t125) = true then ((standing_Name.f a0).bind fun t126 => (some (t126.toList == ([115, 117, 115, 112, 101, 110, 100, 101, 100] : List UInt8)))) else (some false)))) else (some false)) else (some false)) else (if a0 = 3 then (if t117 = t119 then (if (t118 == t120) = true then ((standing_Live.f a0).bind fun t127 => ((novationref10_Live.f a0).bind fun t128 => (if (t127 == t128) = true then ((standing_Name.f a0).bind fun t129 => (some (t129.toList == ([100, 101, 102, 97, 117, 108, 116, 101, 100] : List UInt8)))) else (some false)))) else (some false)) else (some false)) else (if a0 = 4 then (if t117 = t119 then (if (t118 == t120) = true then ((standing_Live.f a0).bind fun t130 => ((novationref10_Live.f a0).bind fun t131 => (if (t130 == t131) = true then ((standing_Name.f a0).bind fun t132 => (some (t132.toList == ([99, 108, 111, 115, 101, 100] : List UInt8)))) else (some false)))) else (some false)) else (some false)) else (if t117 = t119 then (if (t118 == t120) = true then ((standing_Live.f a0).bind fun t133 => ((novationref10_Live.f a0).bind fun t134 => (if (t133 == t134) = true then ((standing_Name.f a0).bind fun t135 => (some (t135.toList == ([] : List UInt8)))) else (some false)))) else (some false)) else (some false)))))) = some r := H
    have A6 := Aside0.mk A60
    clear A60
    by_cases c7 : a0 = 1
    · rw [if_pos c7] at H
      have c7b0 : (a0 == 1) = true := beq_iff_eq.mpr c7
      have c7b1 : (a0 != 1) = false := bne_eq_false_iff_eq.mpr c7
      clear c7
      by_cases c8 : t117 = t119
      · rw [if_pos c8] at H
        have c8b0 : (t117 == t119) = true := beq_iff_eq.mpr c8
        have c8b1 : (t117 != t119) = false := bne_eq_false_iff_eq.mpr c8
        clear c8
        by_cases c9 : (t118 == t120) = true
        · rw [if_pos c9] at H
          have c9b0 : (t118 == t120) = true := c9
          (try (have c9b1 : decide (t118 = t120) = true := by simpa using c9))
          (try (have c9b2 : (t118 == t120) = true := by simpa using c9))
          clear c9
          replace H := Option.bind_eq_some_iff.mp H
          obtain ⟨t121, A100, H⟩ := H
          replace H : ((novationref10_Live.f a0).bind fun t122 => (if (t121 == t122) = true then ((standing_Name.f a0).bind fun t123 => (some (t123.toList == ([97, 99, 116, 105, 118, 101] : List UInt8)))) else (some false))) = some r := H
          have A10 := Aside0.mk A100
          clear A100
          replace H := Option.bind_eq_some_iff.mp H
          obtain ⟨t122, A110, H⟩ := H
          replace H : (if (t121 == t122) = true then ((standing_Name.f a0).bind fun t123 => (some (t123.toList == ([97, 99, 116, 105, 118, 101] : List UInt8)))) else (some false)) = some r := H
          have A11 := Aside0.mk A110
          clear A110
          by_cases c12 : (t121 == t122) = true
          · rw [if_pos c12] at H
            have c12b0 : (t121 == t122) = true := c12
            (try (have c12b1 : decide (t121 = t122) = true := by simpa using c12))
            (try (have c12b2 : (t121 == t122) = true := by simpa using c12))
            clear c12
            replace H := Option.bind_eq_some_iff.mp H
            obtain ⟨t123, A130, H⟩ := H
            replace H : (some (t123.toList == ([97, 99, 116, 105, 118, 101] : List UInt8))) = some r := H
            have A13 := Aside0.mk A130
            clear A130
            obtain rfl := Option.some.inj H
            go_enter Try.func3, Try.ntmps3
            go_wp2_with (first | ((with_reducible refine gate_callee (f := 7) rfl ?_); refine goesL_ (some 10) rfl rfl Try.func7 (by kernel_rfl) rfl #[] rfl (by (try simp only [List.map_toArray, List.map_cons, List.map_nil]); first | done | rfl | (simp only [List.length_drop, List.length_take]; rfl)) ?_; (with_reducible refine (novationlaw10_known.calls k  true _ A3.out).mono ?_); rintro e w14 ⟨rfl, hb⟩; refine ⟨_, rfl, ?_⟩; have n0_ := Aside0.mk (below_step (by repeat (first | (with_reducible first | exact HB.out | apply below_alloc | apply pw_below_drewN | apply below_drew1) | exact HB.out)) hb); clear HB; have HB := n0_; clear n0_; (try clear hb); (try clear hb2); (try clear hk); (try clear hi)) | ((with_reducible refine gate_callee (f := 8) rfl ?_); refine goesL_ (some 15) rfl rfl Try.func8 (by kernel_rfl) rfl #[.int .i64 a0, .int .i64 a1] rfl (by (try simp only [List.map_toArray, List.map_cons, List.map_nil]); first | done | rfl | (simp only [List.length_drop, List.length_take]; rfl)) ?_; (with_reducible refine (standing_Next.calls k a0 a1 t117 t118 _ A5.out).mono ?_); rintro e w' ⟨rfl, ⟨nd, rfl⟩⟩; refine ⟨_, rfl, ?_⟩) | ((with_reducible refine gate_callee (f := 9) rfl ?_); refine goesL_ (some 21) rfl rfl Try.func9 (by kernel_rfl) rfl #[.int .i64 a0, .int .i64 a1] rfl (by (try simp only [List.map_toArray, List.map_cons, List.map_nil]); first | done | rfl | (simp only [List.length_drop, List.length_take]; rfl)) ?_; (with_reducible refine (novationref10_NextStatus.calls k a0 a1 t119 t120 _ A6.out).mono ?_); rintro e w' ⟨rfl, ⟨nd, rfl⟩⟩; refine ⟨_, rfl, ?_⟩) | (go_at_call 10; (with_reducible refine (standing_Live.calls a0 t121 _ A10.out).mono ?_); rintro e w' ⟨rfl, ⟨nd, rfl⟩⟩) | (go_at_call 11; (with_reducible refine (novationref10_Live.calls a0 t122 _ A11.out).mono ?_); rintro e w' ⟨rfl, ⟨nd, rfl⟩⟩) | (go_at_call 12; (with_reducible refine (standing_Name.calls a0 t123 _ A13.out).mono ?_); rintro e w' ⟨rfl, ⟨nd, rfl⟩⟩))
            go_ret
            exact ⟨by first | rfl | (simp [errW_none, errW_some] <;> rfl) | (simp [*, errW_none, errW_some] <;> rfl), by repeat (first | (with_reducible first | exact HB.out | apply below_alloc | apply pw_below_drewN | apply below_drew1) | exact HB.out)⟩
          · rw [if_neg c12] at H
            have c12b0 : (t121 == t122) = false := by simpa using c12
            (try (have c12b1 : decide (t121 = t122) = false := by simpa using c12))
            (try (have c12b2 : (t121 == t122) = false := by simpa using c12))
            (try (have c12b3 : ¬ (t121 = t122) := by simpa using c12))
            clear c12
            obtain rfl := Option.some.inj H
            go_enter Try.func3, Try.ntmps3
            go_wp2_with (first | ((with_reducible refine gate_callee (f := 7) rfl ?_); refine goesL_ (some 10) rfl rfl Try.func7 (by kernel_rfl) rfl #[] rfl (by (try simp only [List.map_toArray, List.map_cons, List.map_nil]); first | done | rfl | (simp only [List.length_drop, List.length_take]; rfl)) ?_; (with_reducible refine (novationlaw10_known.calls k  true _ A3.out).mono ?_); rintro e w15 ⟨rfl, hb⟩; refine ⟨_, rfl, ?_⟩; have n0_ := Aside0.mk (below_step (by repeat (first | (with_reducible first | exact HB.out | apply below_alloc | apply pw_below_drewN | apply below_drew1) | exact HB.out)) hb); clear HB; have HB := n0_; clear n0_; (try clear hb); (try clear hb2); (try clear hk); (try clear hi)) | ((with_reducible refine gate_callee (f := 8) rfl ?_); refine goesL_ (some 15) rfl rfl Try.func8 (by kernel_rfl) rfl #[.int .i64 a0, .int .i64 a1] rfl (by (try simp only [List.map_toArray, List.map_cons, List.map_nil]); first | done | rfl | (simp only [List.length_drop, List.length_take]; rfl)) ?_; (with_reducible refine (standing_Next.calls k a0 a1 t117 t118 _ A5.out).mono ?_); rintro e w' ⟨rfl, ⟨nd, rfl⟩⟩; refine ⟨_, rfl, ?_⟩) | ((with_reducible refine gate_callee (f := 9) rfl ?_); refine goesL_ (some 21) rfl rfl Try.func9 (by kernel_rfl) rfl #[.int .i64 a0, .int .i64 a1] rfl (by (try simp only [List.map_toArray, List.map_cons, List.map_nil]); first | done | rfl | (simp only [List.length_drop, List.length_take]; rfl)) ?_; (with_reducible refine (novationref10_NextStatus.calls k a0 a1 t119 t120 _ A6.out).mono ?_); rintro e w' ⟨rfl, ⟨nd, rfl⟩⟩; refine ⟨_, rfl, ?_⟩) | (go_at_call 10; (with_reducible refine (standing_Live.calls a0 t121 _ A10.out).mono ?_); rintro e w' ⟨rfl, ⟨nd, rfl⟩⟩) | (go_at_call 11; (with_reducible refine (novationref10_Live.calls a0 t122 _ A11.out).mono ?_); rintro e w' ⟨rfl, ⟨nd, rfl⟩⟩))
            go_ret
            exact ⟨by first | rfl | (simp [errW_none, errW_some] <;> rfl) | (simp [*, errW_none, errW_some] <;> rfl), by repeat (first | (with_reducible first | exact HB.out | apply below_alloc | apply pw_below_drewN | apply below_drew1) | exact HB.out)⟩
        · rw [if_neg c9] at H
          have c9b0 : (t118 == t120) = false := by simpa using c9
          (try (have c9b1 : decide (t118 = t120) = false := by simpa using c9))
          (try (have c9b2 : (t118 == t120) = false := by simpa using c9))
          (try (have c9b3 : ¬ (t118 = t120) := by simpa using c9))
          clear c9
          obtain rfl := Option.some.inj H
          go_enter Try.func3, Try.ntmps3
          go_wp2_with (first | ((with_reducible refine gate_callee (f := 7) rfl ?_); refine goesL_ (some 10) rfl rfl Try.func7 (by kernel_rfl) rfl #[] rfl (by (try simp only [List.map_toArray, List.map_cons, List.map_nil]); first | done | rfl | (simp only [List.length_drop, List.length_take]; rfl)) ?_; (with_reducible refine (novationlaw10_known.calls k  true _ A3.out).mono ?_); rintro e w16 ⟨rfl, hb⟩; refine ⟨_, rfl, ?_⟩; have n0_ := Aside0.mk (below_step (by repeat (first | (with_reducible first | exact HB.out | apply below_alloc | apply pw_below_drewN | apply below_drew1) | exact HB.out)) hb); clear HB; have HB := n0_; clear n0_; (try clear hb); (try clear hb2); (try clear hk); (try clear hi)) | ((with_reducible refine gate_callee (f := 8) rfl ?_); refine goesL_ (some 15) rfl rfl Try.func8 (by kernel_rfl) rfl #[.int .i64 a0, .int .i64 a1] rfl (by (try simp only [List.map_toArray, List.map_cons, List.map_nil]); first | done | rfl | (simp only [List.length_drop, List.length_take]; rfl)) ?_; (with_reducible refine (standing_Next.calls k a0 a1 t117 t118 _ A5.out).mono ?_); rintro e w' ⟨rfl, ⟨nd, rfl⟩⟩; refine ⟨_, rfl, ?_⟩) | ((with_reducible refine gate_callee (f := 9) rfl ?_); refine goesL_ (some 21) rfl rfl Try.func9 (by kernel_rfl) rfl #[.int .i64 a0, .int .i64 a1] rfl (by (try simp only [List.map_toArray, List.map_cons, List.map_nil]); first | done | rfl | (simp only [List.length_drop, List.length_take]; rfl)) ?_; (with_reducible refine (novationref10_NextStatus.calls k a0 a1 t119 t120 _ A6.out).mono ?_); rintro e w' ⟨rfl, ⟨nd, rfl⟩⟩; refine ⟨_, rfl, ?_⟩))
          go_ret
          exact ⟨by first | rfl | (simp [errW_none, errW_some] <;> rfl) | (simp [*, errW_none, errW_some] <;> rfl), by repeat (first | (with_reducible first | exact HB.out | apply below_alloc | apply pw_below_drewN | apply below_drew1) | exact HB.out)⟩
      · rw [if_neg c8] at H
        have c8b0 : (t117 == t119) = false := beq_eq_false_iff_ne.mpr c8
        have c8b1 : (t117 != t119) = true := bne_iff_ne.mpr c8
        obtain rfl := Option.some.inj H
        go_enter Try.func3, Try.ntmps3
        go_wp2_with (first | ((with_reducible refine gate_callee (f := 7) rfl ?_); refine goesL_ (some 10) rfl rfl Try.func7 (by kernel_rfl) rfl #[] rfl (by (try simp only [List.map_toArray, List.map_cons, List.map_nil]); first | done | rfl | (simp only [List.length_drop, List.length_take]; rfl)) ?_; (with_reducible refine (novationlaw10_known.calls k  true _ A3.out).mono ?_); rintro e w17 ⟨rfl, hb⟩; refine ⟨_, rfl, ?_⟩; have n0_ := Aside0.mk (below_step (by repeat (first | (with_reducible first | exact HB.out | apply below_alloc | apply pw_below_drewN | apply below_drew1) | exact HB.out)) hb); clear HB; have HB := n0_; clear n0_; (try clear hb); (try clear hb2); (try clear hk); (try clear hi)) | ((with_reducible refine gate_callee (f := 8) rfl ?_); refine goesL_ (some 15) rfl rfl Try.func8 (by kernel_rfl) rfl #[.int .i64 a0, .int .i64 a1] rfl (by (try simp only [List.map_toArray, List.map_cons, List.map_nil]); first | done | rfl | (simp only [List.length_drop, List.length_take]; rfl)) ?_; (with_reducible refine (standing_Next.calls k a0 a1 t117 t118 _ A5.out).mono ?_); rintro e w' ⟨rfl, ⟨nd, rfl⟩⟩; refine ⟨_, rfl, ?_⟩) | ((with_reducible refine gate_callee (f := 9) rfl ?_); refine goesL_ (some 21) rfl rfl Try.func9 (by kernel_rfl) rfl #[.int .i64 a0, .int .i64 a1] rfl (by (try simp only [List.map_toArray, List.map_cons, List.map_nil]); first | done | rfl | (simp only [List.length_drop, List.length_take]; rfl)) ?_; (with_reducible refine (novationref10_NextStatus.calls k a0 a1 t119 t120 _ A6.out).mono ?_); rintro e w' ⟨rfl, ⟨nd, rfl⟩⟩; refine ⟨_, rfl, ?_⟩))
        go_ret
        exact ⟨by first | rfl | (simp [errW_none, errW_some] <;> rfl) | (simp [*, errW_none, errW_some] <;> rfl), by repeat (first | (with_reducible first | exact HB.out | apply below_alloc | apply pw_below_drewN | apply below_drew1) | exact HB.out)⟩
    · rw [if_neg c7] at H
      have c7b0 : (a0 == 1) = false := beq_eq_false_iff_ne.mpr c7
      have c7b1 : (a0 != 1) = true := bne_iff_ne.mpr c7
      by_cases c18 : a0 = 2
      · rw [if_pos c18] at H
        have c18b0 : (a0 == 2) = true := beq_iff_eq.mpr c18
        have c18b1 : (a0 != 2) = false := bne_eq_false_iff_eq.mpr c18
        clear c18
        by_cases c19 : t117 = t119
        · rw [if_pos c19] at H
          have c19b0 : (t117 == t119) = true := beq_iff_eq.mpr c19
          have c19b1 : (t117 != t119) = false := bne_eq_false_iff_eq.mpr c19
          clear c19
          by_cases c20 : (t118 == t120) = true
          · rw [if_pos c20] at H
            have c20b0 : (t118 == t120) = true := c20
            (try (have c20b1 : decide (t118 = t120) = true := by simpa using c20))
            (try (have c20b2 : (t118 == t120) = true := by simpa using c20))
            clear c20
            replace H := Option.bind_eq_some_iff.mp H
            obtain ⟨t124, A210, H⟩ := H
            replace H : ((novationref10_Live.f a0).bind fun t125 => (if (t124 == t125) = true then ((standing_Name.f a0).bind fun t126 => (some (t126.toList == ([115, 117, 115, 112, 101, 110, 100, 101, 100] : List UInt8)))) else (some false))) = some r := H
            have A21 := Aside0.mk A210
            clear A210
            replace H := Option.bind_eq_some_iff.mp H
            obtain ⟨t125, A220, H⟩ := H
            replace H : (if (t124 == t125) = true then ((standing_Name.f a0).bind fun t126 => (some (t126.toList == ([115, 117, 115, 112, 101, 110, 100, 101, 100] : List UInt8)))) else (some false)) = some r := H
            have A22 := Aside0.mk A220
            clear A220
            by_cases c23 : (t124 == t125) = true
            · rw [if_pos c23] at H
              have c23b0 : (t124 == t125) = true := c23
              (try (have c23b1 : decide (t124 = t125) = true := by simpa using c23))
              (try (have c23b2 : (t124 == t125) = true := by simpa using c23))
              clear c23
              replace H := Option.bind_eq_some_iff.mp H
              obtain ⟨t126, A240, H⟩ := H
              replace H : (some (t126.toList == ([115, 117, 115, 112, 101, 110, 100, 101, 100] : List UInt8))) = some r := H
              have A24 := Aside0.mk A240
              clear A240
              obtain rfl := Option.some.inj H
              go_enter Try.func3, Try.ntmps3
              go_wp2_with (first | ((with_reducible refine gate_callee (f := 7) rfl ?_); refine goesL_ (some 10) rfl rfl Try.func7 (by kernel_rfl) rfl #[] rfl (by (try simp only [List.map_toArray, List.map_cons, List.map_nil]); first | done | rfl | (simp only [List.length_drop, List.length_take]; rfl)) ?_; (with_reducible refine (novationlaw10_known.calls k  true _ A3.out).mono ?_); rintro e w25 ⟨rfl, hb⟩; refine ⟨_, rfl, ?_⟩; have n0_ := Aside0.mk (below_step (by repeat (first | (with_reducible first | exact HB.out | apply below_alloc | apply pw_below_drewN | apply below_drew1) | exact HB.out)) hb); clear HB; have HB := n0_; clear n0_; (try clear hb); (try clear hb2); (try clear hk); (try clear hi)) | ((with_reducible refine gate_callee (f := 8) rfl ?_); refine goesL_ (some 15) rfl rfl Try.func8 (by kernel_rfl) rfl #[.int .i64 a0, .int .i64 a1] rfl (by (try simp only [List.map_toArray, List.map_cons, List.map_nil]); first | done | rfl | (simp only [List.length_drop, List.length_take]; rfl)) ?_; (with_reducible refine (standing_Next.calls k a0 a1 t117 t118 _ A5.out).mono ?_); rintro e w' ⟨rfl, ⟨nd, rfl⟩⟩; refine ⟨_, rfl, ?_⟩) | ((with_reducible refine gate_callee (f := 9) rfl ?_); refine goesL_ (some 21) rfl rfl Try.func9 (by kernel_rfl) rfl #[.int .i64 a0, .int .i64 a1] rfl (by (try simp only [List.map_toArray, List.map_cons, List.map_nil]); first | done | rfl | (simp only [List.length_drop, List.length_take]; rfl)) ?_; (with_reducible refine (novationref10_NextStatus.calls k a0 a1 t119 t120 _ A6.out).mono ?_); rintro e w' ⟨rfl, ⟨nd, rfl⟩⟩; refine ⟨_, rfl, ?_⟩) | (go_at_call 10; (with_reducible refine (standing_Live.calls a0 t124 _ A21.out).mono ?_); rintro e w' ⟨rfl, ⟨nd, rfl⟩⟩) | (go_at_call 11; (with_reducible refine (novationref10_Live.calls a0 t125 _ A22.out).mono ?_); rintro e w' ⟨rfl, ⟨nd, rfl⟩⟩) | (go_at_call 12; (with_reducible refine (standing_Name.calls a0 t126 _ A24.out).mono ?_); rintro e w' ⟨rfl, ⟨nd, rfl⟩⟩))
              go_ret
              exact ⟨by first | rfl | (simp [errW_none, errW_some] <;> rfl) | (simp [*, errW_none, errW_some] <;> rfl), by repeat (first | (with_reducible first | exact HB.out | apply below_alloc | apply pw_below_drewN | apply below_drew1) | exact HB.out)⟩
            · rw [if_neg c23] at H
              have c23b0 : (t124 == t125) = false := by simpa using c23
              (try (have c23b1 : decide (t124 = t125) = false := by simpa using c23))
              (try (have c23b2 : (t124 == t125) = false := by simpa using c23))
              (try (have c23b3 : ¬ (t124 = t125) := by simpa using c23))
              clear c23
              obtain rfl := Option.some.inj H
              go_enter Try.func3, Try.ntmps3
              go_wp2_with (first | ((with_reducible refine gate_callee (f := 7) rfl ?_); refine goesL_ (some 10) rfl rfl Try.func7 (by kernel_rfl) rfl #[] rfl (by (try simp only [List.map_toArray, List.map_cons, List.map_nil]); first | done | rfl | (simp only [List.length_drop, List.length_take]; rfl)) ?_; (with_reducible refine (novationlaw10_known.calls k  true _ A3.out).mono ?_); rintro e w26 ⟨rfl, hb⟩; refine ⟨_, rfl, ?_⟩; have n0_ := Aside0.mk (below_step (by repeat (first | (with_reducible first | exact HB.out | apply below_alloc | apply pw_below_drewN | apply below_drew1) | exact HB.out)) hb); clear HB; have HB := n0_; clear n0_; (try clear hb); (try clear hb2); (try clear hk); (try clear hi)) | ((with_reducible refine gate_callee (f := 8) rfl ?_); refine goesL_ (some 15) rfl rfl Try.func8 (by kernel_rfl) rfl #[.int .i64 a0, .int .i64 a1] rfl (by (try simp only [List.map_toArray, List.map_cons, List.map_nil]); first | done | rfl | (simp only [List.length_drop, List.length_take]; rfl)) ?_; (with_reducible refine (standing_Next.calls k a0 a1 t117 t118 _ A5.out).mono ?_); rintro e w' ⟨rfl, ⟨nd, rfl⟩⟩; refine ⟨_, rfl, ?_⟩) | ((with_reducible refine gate_callee (f := 9) rfl ?_); refine goesL_ (some 21) rfl rfl Try.func9 (by kernel_rfl) rfl #[.int .i64 a0, .int .i64 a1] rfl (by (try simp only [List.map_toArray, List.map_cons, List.map_nil]); first | done | rfl | (simp only [List.length_drop, List.length_take]; rfl)) ?_; (with_reducible refine (novationref10_NextStatus.calls k a0 a1 t119 t120 _ A6.out).mono ?_); rintro e w' ⟨rfl, ⟨nd, rfl⟩⟩; refine ⟨_, rfl, ?_⟩) | (go_at_call 10; (with_reducible refine (standing_Live.calls a0 t124 _ A21.out).mono ?_); rintro e w' ⟨rfl, ⟨nd, rfl⟩⟩) | (go_at_call 11; (with_reducible refine (novationref10_Live.calls a0 t125 _ A22.out).mono ?_); rintro e w' ⟨rfl, ⟨nd, rfl⟩⟩))
              go_ret
              exact ⟨by first | rfl | (simp [errW_none, errW_some] <;> rfl) | (simp [*, errW_none, errW_some] <;> rfl), by repeat (first | (with_reducible first | exact HB.out | apply below_alloc | apply pw_below_drewN | apply below_drew1) | exact HB.out)⟩
          · rw [if_neg c20] at H
            have c20b0 : (t118 == t120) = false := by simpa using c20
            (try (have c20b1 : decide (t118 = t120) = false := by simpa using c20))
            (try (have c20b2 : (t118 == t120) = false := by simpa using c20))
            (try (have c20b3 : ¬ (t118 = t120) := by simpa using c20))
            clear c20
            obtain rfl := Option.some.inj H
            go_enter Try.func3, Try.ntmps3
            go_wp2_with (first | ((with_reducible refine gate_callee (f := 7) rfl ?_); refine goesL_ (some 10) rfl rfl Try.func7 (by kernel_rfl) rfl #[] rfl (by (try simp only [List.map_toArray, List.map_cons, List.map_nil]); first | done | rfl | (simp only [List.length_drop, List.length_take]; rfl)) ?_; (with_reducible refine (novationlaw10_known.calls k  true _ A3.out).mono ?_); rintro e w27 ⟨rfl, hb⟩; refine ⟨_, rfl, ?_⟩; have n0_ := Aside0.mk (below_step (by repeat (first | (with_reducible first | exact HB.out | apply below_alloc | apply pw_below_drewN | apply below_drew1) | exact HB.out)) hb); clear HB; have HB := n0_; clear n0_; (try clear hb); (try clear hb2); (try clear hk); (try clear hi)) | ((with_reducible refine gate_callee (f := 8) rfl ?_); refine goesL_ (some 15) rfl rfl Try.func8 (by kernel_rfl) rfl #[.int .i64 a0, .int .i64 a1] rfl (by (try simp only [List.map_toArray, List.map_cons, List.map_nil]); first | done | rfl | (simp only [List.length_drop, List.length_take]; rfl)) ?_; (with_reducible refine (standing_Next.calls k a0 a1 t117 t118 _ A5.out).mono ?_); rintro e w' ⟨rfl, ⟨nd, rfl⟩⟩; refine ⟨_, rfl, ?_⟩) | ((with_reducible refine gate_callee (f := 9) rfl ?_); refine goesL_ (some 21) rfl rfl Try.func9 (by kernel_rfl) rfl #[.int .i64 a0, .int .i64 a1] rfl (by (try simp only [List.map_toArray, List.map_cons, List.map_nil]); first | done | rfl | (simp only [List.length_drop, List.length_take]; rfl)) ?_; (with_reducible refine (novationref10_NextStatus.calls k a0 a1 t119 t120 _ A6.out).mono ?_); rintro e w' ⟨rfl, ⟨nd, rfl⟩⟩; refine ⟨_, rfl, ?_⟩))
            go_ret
            exact ⟨by first | rfl | (simp [errW_none, errW_some] <;> rfl) | (simp [*, errW_none, errW_some] <;> rfl), by repeat (first | (with_reducible first | exact HB.out | apply below_alloc | apply pw_below_drewN | apply below_drew1) | exact HB.out)⟩
        · rw [if_neg c19] at H
          have c19b0 : (t117 == t119) = false := beq_eq_false_iff_ne.mpr c19
          have c19b1 : (t117 != t119) = true := bne_iff_ne.mpr c19
          obtain rfl := Option.some.inj H
          go_enter Try.func3, Try.ntmps3
          go_wp2_with (first | ((with_reducible refine gate_callee (f := 7) rfl ?_); refine goesL_ (some 10) rfl rfl Try.func7 (by kernel_rfl) rfl #[] rfl (by (try simp only [List.map_toArray, List.map_cons, List.map_nil]); first | done | rfl | (simp only [List.length_drop, List.length_take]; rfl)) ?_; (with_reducible refine (novationlaw10_known.calls k  true _ A3.out).mono ?_); rintro e w28 ⟨rfl, hb⟩; refine ⟨_, rfl, ?_⟩; have n0_ := Aside0.mk (below_step (by repeat (first | (with_reducible first | exact HB.out | apply below_alloc | apply pw_below_drewN | apply below_drew1) | exact HB.out)) hb); clear HB; have HB := n0_; clear n0_; (try clear hb); (try clear hb2); (try clear hk); (try clear hi)) | ((with_reducible refine gate_callee (f := 8) rfl ?_); refine goesL_ (some 15) rfl rfl Try.func8 (by kernel_rfl) rfl #[.int .i64 a0, .int .i64 a1] rfl (by (try simp only [List.map_toArray, List.map_cons, List.map_nil]); first | done | rfl | (simp only [List.length_drop, List.length_take]; rfl)) ?_; (with_reducible refine (standing_Next.calls k a0 a1 t117 t118 _ A5.out).mono ?_); rintro e w' ⟨rfl, ⟨nd, rfl⟩⟩; refine ⟨_, rfl, ?_⟩) | ((with_reducible refine gate_callee (f := 9) rfl ?_); refine goesL_ (some 21) rfl rfl Try.func9 (by kernel_rfl) rfl #[.int .i64 a0, .int .i64 a1] rfl (by (try simp only [List.map_toArray, List.map_cons, List.map_nil]); first | done | rfl | (simp only [List.length_drop, List.length_take]; rfl)) ?_; (with_reducible refine (novationref10_NextStatus.calls k a0 a1 t119 t120 _ A6.out).mono ?_); rintro e w' ⟨rfl, ⟨nd, rfl⟩⟩; refine ⟨_, rfl, ?_⟩))
          go_ret
          exact ⟨by first | rfl | (simp [errW_none, errW_some] <;> rfl) | (simp [*, errW_none, errW_some] <;> rfl), by repeat (first | (with_reducible first | exact HB.out | apply below_alloc | apply pw_below_drewN | apply below_drew1) | exact HB.out)⟩
      · rw [if_neg c18] at H
        have c18b0 : (a0 == 2) = false := beq_eq_false_iff_ne.mpr c18
        have c18b1 : (a0 != 2) = true := bne_iff_ne.mpr c18
        by_cases c29 : a0 = 3
        · rw [if_pos c29] at H
          have c29b0 : (a0 == 3) = true := beq_iff_eq.mpr c29
          have c29b1 : (a0 != 3) = false := bne_eq_false_iff_eq.mpr c29
          clear c29
          by_cases c30 : t117 = t119
          · rw [if_pos c30] at H
            have c30b0 : (t117 == t119) = true := beq_iff_eq.mpr c30
            have c30b1 : (t117 != t119) = false := bne_eq_false_iff_eq.mpr c30
            clear c30
            by_cases c31 : (t118 == t120) = true
            · rw [if_pos c31] at H
              have c31b0 : (t118 == t120) = true := c31
              (try (have c31b1 : decide (t118 = t120) = true := by simpa using c31))
              (try (have c31b2 : (t118 == t120) = true := by simpa using c31))
              clear c31
              replace H := Option.bind_eq_some_iff.mp H
              obtain ⟨t127, A320, H⟩ := H
              replace H : ((novationref10_Live.f a0).bind fun t128 => (if (t127 == t128) = true then ((standing_Name.f a0).bind fun t129 => (some (t129.toList == ([100, 101, 102, 97, 117, 108, 116, 101, 100] : List UInt8)))) else (some false))) = some r := H
              have A32 := Aside0.mk A320
              clear A320
              replace H := Option.bind_eq_some_iff.mp H
              obtain ⟨t128, A330, H⟩ := H
              replace H : (if (t127 == t128) = true then ((standing_Name.f a0).bind fun t129 => (some (t129.toList == ([100, 101, 102, 97, 117, 108, 116, 101, 100] : List UInt8)))) else (some false)) = some r := H
              have A33 := Aside0.mk A330
              clear A330
              by_cases c34 : (t127 == t128) = true
              · rw [if_pos c34] at H
                have c34b0 : (t127 == t128) = true := c34
                (try (have c34b1 : decide (t127 = t128) = true := by simpa using c34))
                (try (have c34b2 : (t127 == t128) = true := by simpa using c34))
                clear c34
                replace H := Option.bind_eq_some_iff.mp H
                obtain ⟨t129, A350, H⟩ := H
                replace H : (some (t129.toList == ([100, 101, 102, 97, 117, 108, 116, 101, 100] : List UInt8))) = some r := H
                have A35 := Aside0.mk A350
                clear A350
                obtain rfl := Option.some.inj H
                go_enter Try.func3, Try.ntmps3
                go_wp2_with (first | ((with_reducible refine gate_callee (f := 7) rfl ?_); refine goesL_ (some 10) rfl rfl Try.func7 (by kernel_rfl) rfl #[] rfl (by (try simp only [List.map_toArray, List.map_cons, List.map_nil]); first | done | rfl | (simp only [List.length_drop, List.length_take]; rfl)) ?_; (with_reducible refine (novationlaw10_known.calls k  true _ A3.out).mono ?_); rintro e w36 ⟨rfl, hb⟩; refine ⟨_, rfl, ?_⟩; have n0_ := Aside0.mk (below_step (by repeat (first | (with_reducible first | exact HB.out | apply below_alloc | apply pw_below_drewN | apply below_drew1) | exact HB.out)) hb); clear HB; have HB := n0_; clear n0_; (try clear hb); (try clear hb2); (try clear hk); (try clear hi)) | ((with_reducible refine gate_callee (f := 8) rfl ?_); refine goesL_ (some 15) rfl rfl Try.func8 (by kernel_rfl) rfl #[.int .i64 a0, .int .i64 a1] rfl (by (try simp only [List.map_toArray, List.map_cons, List.map_nil]); first | done | rfl | (simp only [List.length_drop, List.length_take]; rfl)) ?_; (with_reducible refine (standing_Next.calls k a0 a1 t117 t118 _ A5.out).mono ?_); rintro e w' ⟨rfl, ⟨nd, rfl⟩⟩; refine ⟨_, rfl, ?_⟩) | ((with_reducible refine gate_callee (f := 9) rfl ?_); refine goesL_ (some 21) rfl rfl Try.func9 (by kernel_rfl) rfl #[.int .i64 a0, .int .i64 a1] rfl (by (try simp only [List.map_toArray, List.map_cons, List.map_nil]); first | done | rfl | (simp only [List.length_drop, List.length_take]; rfl)) ?_; (with_reducible refine (novationref10_NextStatus.calls k a0 a1 t119 t120 _ A6.out).mono ?_); rintro e w' ⟨rfl, ⟨nd, rfl⟩⟩; refine ⟨_, rfl, ?_⟩) | (go_at_call 10; (with_reducible refine (standing_Live.calls a0 t127 _ A32.out).mono ?_); rintro e w' ⟨rfl, ⟨nd, rfl⟩⟩) | (go_at_call 11; (with_reducible refine (novationref10_Live.calls a0 t128 _ A33.out).mono ?_); rintro e w' ⟨rfl, ⟨nd, rfl⟩⟩) | (go_at_call 12; (with_reducible refine (standing_Name.calls a0 t129 _ A35.out).mono ?_); rintro e w' ⟨rfl, ⟨nd, rfl⟩⟩))
                go_ret
                exact ⟨by first | rfl | (simp [errW_none, errW_some] <;> rfl) | (simp [*, errW_none, errW_some] <;> rfl), by repeat (first | (with_reducible first | exact HB.out | apply below_alloc | apply pw_below_drewN | apply below_drew1) | exact HB.out)⟩
              · rw [if_neg c34] at H
                have c34b0 : (t127 == t128) = false := by simpa using c34
                (try (have c34b1 : decide (t127 = t128) = false := by simpa using c34))
                (try (have c34b2 : (t127 == t128) = false := by simpa using c34))
                (try (have c34b3 : ¬ (t127 = t128) := by simpa using c34))
                clear c34
                obtain rfl := Option.some.inj H
                go_enter Try.func3, Try.ntmps3
                go_wp2_with (first | ((with_reducible refine gate_callee (f := 7) rfl ?_); refine goesL_ (some 10) rfl rfl Try.func7 (by kernel_rfl) rfl #[] rfl (by (try simp only [List.map_toArray, List.map_cons, List.map_nil]); first | done | rfl | (simp only [List.length_drop, List.length_take]; rfl)) ?_; (with_reducible refine (novationlaw10_known.calls k  true _ A3.out).mono ?_); rintro e w37 ⟨rfl, hb⟩; refine ⟨_, rfl, ?_⟩; have n0_ := Aside0.mk (below_step (by repeat (first | (with_reducible first | exact HB.out | apply below_alloc | apply pw_below_drewN | apply below_drew1) | exact HB.out)) hb); clear HB; have HB := n0_; clear n0_; (try clear hb); (try clear hb2); (try clear hk); (try clear hi)) | ((with_reducible refine gate_callee (f := 8) rfl ?_); refine goesL_ (some 15) rfl rfl Try.func8 (by kernel_rfl) rfl #[.int .i64 a0, .int .i64 a1] rfl (by (try simp only [List.map_toArray, List.map_cons, List.map_nil]); first | done | rfl | (simp only [List.length_drop, List.length_take]; rfl)) ?_; (with_reducible refine (standing_Next.calls k a0 a1 t117 t118 _ A5.out).mono ?_); rintro e w' ⟨rfl, ⟨nd, rfl⟩⟩; refine ⟨_, rfl, ?_⟩) | ((with_reducible refine gate_callee (f := 9) rfl ?_); refine goesL_ (some 21) rfl rfl Try.func9 (by kernel_rfl) rfl #[.int .i64 a0, .int .i64 a1] rfl (by (try simp only [List.map_toArray, List.map_cons, List.map_nil]); first | done | rfl | (simp only [List.length_drop, List.length_take]; rfl)) ?_; (with_reducible refine (novationref10_NextStatus.calls k a0 a1 t119 t120 _ A6.out).mono ?_); rintro e w' ⟨rfl, ⟨nd, rfl⟩⟩; refine ⟨_, rfl, ?_⟩) | (go_at_call 10; (with_reducible refine (standing_Live.calls a0 t127 _ A32.out).mono ?_); rintro e w' ⟨rfl, ⟨nd, rfl⟩⟩) | (go_at_call 11; (with_reducible refine (novationref10_Live.calls a0 t128 _ A33.out).mono ?_); rintro e w' ⟨rfl, ⟨nd, rfl⟩⟩))
                go_ret
                exact ⟨by first | rfl | (simp [errW_none, errW_some] <;> rfl) | (simp [*, errW_none, errW_some] <;> rfl), by repeat (first | (with_reducible first | exact HB.out | apply below_alloc | apply pw_below_drewN | apply below_drew1) | exact HB.out)⟩
            · rw [if_neg c31] at H
              have c31b0 : (t118 == t120) = false := by simpa using c31
              (try (have c31b1 : decide (t118 = t120) = false := by simpa using c31))
              (try (have c31b2 : (t118 == t120) = false := by simpa using c31))
              (try (have c31b3 : ¬ (t118 = t120) := by simpa using c31))
              clear c31
              obtain rfl := Option.some.inj H
              go_enter Try.func3, Try.ntmps3
              go_wp2_with (first | ((with_reducible refine gate_callee (f := 7) rfl ?_); refine goesL_ (some 10) rfl rfl Try.func7 (by kernel_rfl) rfl #[] rfl (by (try simp only [List.map_toArray, List.map_cons, List.map_nil]); first | done | rfl | (simp only [List.length_drop, List.length_take]; rfl)) ?_; (with_reducible refine (novationlaw10_known.calls k  true _ A3.out).mono ?_); rintro e w38 ⟨rfl, hb⟩; refine ⟨_, rfl, ?_⟩; have n0_ := Aside0.mk (below_step (by repeat (first | (with_reducible first | exact HB.out | apply below_alloc | apply pw_below_drewN | apply below_drew1) | exact HB.out)) hb); clear HB; have HB := n0_; clear n0_; (try clear hb); (try clear hb2); (try clear hk); (try clear hi)) | ((with_reducible refine gate_callee (f := 8) rfl ?_); refine goesL_ (some 15) rfl rfl Try.func8 (by kernel_rfl) rfl #[.int .i64 a0, .int .i64 a1] rfl (by (try simp only [List.map_toArray, List.map_cons, List.map_nil]); first | done | rfl | (simp only [List.length_drop, List.length_take]; rfl)) ?_; (with_reducible refine (standing_Next.calls k a0 a1 t117 t118 _ A5.out).mono ?_); rintro e w' ⟨rfl, ⟨nd, rfl⟩⟩; refine ⟨_, rfl, ?_⟩) | ((with_reducible refine gate_callee (f := 9) rfl ?_); refine goesL_ (some 21) rfl rfl Try.func9 (by kernel_rfl) rfl #[.int .i64 a0, .int .i64 a1] rfl (by (try simp only [List.map_toArray, List.map_cons, List.map_nil]); first | done | rfl | (simp only [List.length_drop, List.length_take]; rfl)) ?_; (with_reducible refine (novationref10_NextStatus.calls k a0 a1 t119 t120 _ A6.out).mono ?_); rintro e w' ⟨rfl, ⟨nd, rfl⟩⟩; refine ⟨_, rfl, ?_⟩))
              go_ret
              exact ⟨by first | rfl | (simp [errW_none, errW_some] <;> rfl) | (simp [*, errW_none, errW_some] <;> rfl), by repeat (first | (with_reducible first | exact HB.out | apply below_alloc | apply pw_below_drewN | apply below_drew1) | exact HB.out)⟩
          · rw [if_neg c30] at H
            have c30b0 : (t117 == t119) = false := beq_eq_false_iff_ne.mpr c30
            have c30b1 : (t117 != t119) = true := bne_iff_ne.mpr c30
            obtain rfl := Option.some.inj H
            go_enter Try.func3, Try.ntmps3
            go_wp2_with (first | ((with_reducible refine gate_callee (f := 7) rfl ?_); refine goesL_ (some 10) rfl rfl Try.func7 (by kernel_rfl) rfl #[] rfl (by (try simp only [List.map_toArray, List.map_cons, List.map_nil]); first | done | rfl | (simp only [List.length_drop, List.length_take]; rfl)) ?_; (with_reducible refine (novationlaw10_known.calls k  true _ A3.out).mono ?_); rintro e w39 ⟨rfl, hb⟩; refine ⟨_, rfl, ?_⟩; have n0_ := Aside0.mk (below_step (by repeat (first | (with_reducible first | exact HB.out | apply below_alloc | apply pw_below_drewN | apply below_drew1) | exact HB.out)) hb); clear HB; have HB := n0_; clear n0_; (try clear hb); (try clear hb2); (try clear hk); (try clear hi)) | ((with_reducible refine gate_callee (f := 8) rfl ?_); refine goesL_ (some 15) rfl rfl Try.func8 (by kernel_rfl) rfl #[.int .i64 a0, .int .i64 a1] rfl (by (try simp only [List.map_toArray, List.map_cons, List.map_nil]); first | done | rfl | (simp only [List.length_drop, List.length_take]; rfl)) ?_; (with_reducible refine (standing_Next.calls k a0 a1 t117 t118 _ A5.out).mono ?_); rintro e w' ⟨rfl, ⟨nd, rfl⟩⟩; refine ⟨_, rfl, ?_⟩) | ((with_reducible refine gate_callee (f := 9) rfl ?_); refine goesL_ (some 21) rfl rfl Try.func9 (by kernel_rfl) rfl #[.int .i64 a0, .int .i64 a1] rfl (by (try simp only [List.map_toArray, List.map_cons, List.map_nil]); first | done | rfl | (simp only [List.length_drop, List.length_take]; rfl)) ?_; (with_reducible refine (novationref10_NextStatus.calls k a0 a1 t119 t120 _ A6.out).mono ?_); rintro e w' ⟨rfl, ⟨nd, rfl⟩⟩; refine ⟨_, rfl, ?_⟩))
            go_ret
            exact ⟨by first | rfl | (simp [errW_none, errW_some] <;> rfl) | (simp [*, errW_none, errW_some] <;> rfl), by repeat (first | (with_reducible first | exact HB.out | apply below_alloc | apply pw_below_drewN | apply below_drew1) | exact HB.out)⟩
        · rw [if_neg c29] at H
          have c29b0 : (a0 == 3) = false := beq_eq_false_iff_ne.mpr c29
          have c29b1 : (a0 != 3) = true := bne_iff_ne.mpr c29
          by_cases c40 : a0 = 4
          · rw [if_pos c40] at H
            have c40b0 : (a0 == 4) = true := beq_iff_eq.mpr c40
            have c40b1 : (a0 != 4) = false := bne_eq_false_iff_eq.mpr c40
            clear c40
            by_cases c41 : t117 = t119
            · rw [if_pos c41] at H
              have c41b0 : (t117 == t119) = true := beq_iff_eq.mpr c41
              have c41b1 : (t117 != t119) = false := bne_eq_false_iff_eq.mpr c41
              clear c41
              by_cases c42 : (t118 == t120) = true
              · rw [if_pos c42] at H
                have c42b0 : (t118 == t120) = true := c42
                (try (have c42b1 : decide (t118 = t120) = true := by simpa using c42))
                (try (have c42b2 : (t118 == t120) = true := by simpa using c42))
                clear c42
                replace H := Option.bind_eq_some_iff.mp H
                obtain ⟨t130, A430, H⟩ := H
                replace H : ((novationref10_Live.f a0).bind fun t131 => (if (t130 == t131) = true then ((standing_Name.f a0).bind fun t132 => (some (t132.toList == ([99, 108, 111, 115, 101, 100] : List UInt8)))) else (some false))) = some r := H
                have A43 := Aside0.mk A430
                clear A430
                replace H := Option.bind_eq_some_iff.mp H
                obtain ⟨t131, A440, H⟩ := H
                replace H : (if (t130 == t131) = true then ((standing_Name.f a0).bind fun t132 => (some (t132.toList == ([99, 108, 111, 115, 101, 100] : List UInt8)))) else (some false)) = some r := H
                have A44 := Aside0.mk A440
                clear A440
                by_cases c45 : (t130 == t131) = true
                · rw [if_pos c45] at H
                  have c45b0 : (t130 == t131) = true := c45
                  (try (have c45b1 : decide (t130 = t131) = true := by simpa using c45))
                  (try (have c45b2 : (t130 == t131) = true := by simpa using c45))
                  clear c45
                  replace H := Option.bind_eq_some_iff.mp H
                  obtain ⟨t132, A460, H⟩ := H
                  replace H : (some (t132.toList == ([99, 108, 111, 115, 101, 100] : List UInt8))) = some r := H
                  have A46 := Aside0.mk A460
                  clear A460
                  obtain rfl := Option.some.inj H
                  go_enter Try.func3, Try.ntmps3
                  go_wp2_with (first | ((with_reducible refine gate_callee (f := 7) rfl ?_); refine goesL_ (some 10) rfl rfl Try.func7 (by kernel_rfl) rfl #[] rfl (by (try simp only [List.map_toArray, List.map_cons, List.map_nil]); first | done | rfl | (simp only [List.length_drop, List.length_take]; rfl)) ?_; (with_reducible refine (novationlaw10_known.calls k  true _ A3.out).mono ?_); rintro e w47 ⟨rfl, hb⟩; refine ⟨_, rfl, ?_⟩; have n0_ := Aside0.mk (below_step (by repeat (first | (with_reducible first | exact HB.out | apply below_alloc | apply pw_below_drewN | apply below_drew1) | exact HB.out)) hb); clear HB; have HB := n0_; clear n0_; (try clear hb); (try clear hb2); (try clear hk); (try clear hi)) | ((with_reducible refine gate_callee (f := 8) rfl ?_); refine goesL_ (some 15) rfl rfl Try.func8 (by kernel_rfl) rfl #[.int .i64 a0, .int .i64 a1] rfl (by (try simp only [List.map_toArray, List.map_cons, List.map_nil]); first | done | rfl | (simp only [List.length_drop, List.length_take]; rfl)) ?_; (with_reducible refine (standing_Next.calls k a0 a1 t117 t118 _ A5.out).mono ?_); rintro e w' ⟨rfl, ⟨nd, rfl⟩⟩; refine ⟨_, rfl, ?_⟩) | ((with_reducible refine gate_callee (f := 9) rfl ?_); refine goesL_ (some 21) rfl rfl Try.func9 (by kernel_rfl) rfl #[.int .i64 a0, .int .i64 a1] rfl (by (try simp only [List.map_toArray, List.map_cons, List.map_nil]); first | done | rfl | (simp only [List.length_drop, List.length_take]; rfl)) ?_; (with_reducible refine (novationref10_NextStatus.calls k a0 a1 t119 t120 _ A6.out).mono ?_); rintro e w' ⟨rfl, ⟨nd, rfl⟩⟩; refine ⟨_, rfl, ?_⟩) | (go_at_call 10; (with_reducible refine (standing_Live.calls a0 t130 _ A43.out).mono ?_); rintro e w' ⟨rfl, ⟨nd, rfl⟩⟩) | (go_at_call 11; (with_reducible refine (novationref10_Live.calls a0 t131 _ A44.out).mono ?_); rintro e w' ⟨rfl, ⟨nd, rfl⟩⟩) | (go_at_call 12; (with_reducible refine (standing_Name.calls a0 t132 _ A46.out).mono ?_); rintro e w' ⟨rfl, ⟨nd, rfl⟩⟩))
                  go_ret
                  exact ⟨by first | rfl | (simp [errW_none, errW_some] <;> rfl) | (simp [*, errW_none, errW_some] <;> rfl), by repeat (first | (with_reducible first | exact HB.out | apply below_alloc | apply pw_below_drewN | apply below_drew1) | exact HB.out)⟩
                · rw [if_neg c45] at H
                  have c45b0 : (t130 == t131) = false := by simpa using c45
                  (try (have c45b1 : decide (t130 = t131) = false := by simpa using c45))
                  (try (have c45b2 : (t130 == t131) = false := by simpa using c45))
                  (try (have c45b3 : ¬ (t130 = t131) := by simpa using c45))
                  clear c45
                  obtain rfl := Option.some.inj H
                  go_enter Try.func3, Try.ntmps3
                  go_wp2_with (first | ((with_reducible refine gate_callee (f := 7) rfl ?_); refine goesL_ (some 10) rfl rfl Try.func7 (by kernel_rfl) rfl #[] rfl (by (try simp only [List.map_toArray, List.map_cons, List.map_nil]); first | done | rfl | (simp only [List.length_drop, List.length_take]; rfl)) ?_; (with_reducible refine (novationlaw10_known.calls k  true _ A3.out).mono ?_); rintro e w48 ⟨rfl, hb⟩; refine ⟨_, rfl, ?_⟩; have n0_ := Aside0.mk (below_step (by repeat (first | (with_reducible first | exact HB.out | apply below_alloc | apply pw_below_drewN | apply below_drew1) | exact HB.out)) hb); clear HB; have HB := n0_; clear n0_; (try clear hb); (try clear hb2); (try clear hk); (try clear hi)) | ((with_reducible refine gate_callee (f := 8) rfl ?_); refine goesL_ (some 15) rfl rfl Try.func8 (by kernel_rfl) rfl #[.int .i64 a0, .int .i64 a1] rfl (by (try simp only [List.map_toArray, List.map_cons, List.map_nil]); first | done | rfl | (simp only [List.length_drop, List.length_take]; rfl)) ?_; (with_reducible refine (standing_Next.calls k a0 a1 t117 t118 _ A5.out).mono ?_); rintro e w' ⟨rfl, ⟨nd, rfl⟩⟩; refine ⟨_, rfl, ?_⟩) | ((with_reducible refine gate_callee (f := 9) rfl ?_); refine goesL_ (some 21) rfl rfl Try.func9 (by kernel_rfl) rfl #[.int .i64 a0, .int .i64 a1] rfl (by (try simp only [List.map_toArray, List.map_cons, List.map_nil]); first | done | rfl | (simp only [List.length_drop, List.length_take]; rfl)) ?_; (with_reducible refine (novationref10_NextStatus.calls k a0 a1 t119 t120 _ A6.out).mono ?_); rintro e w' ⟨rfl, ⟨nd, rfl⟩⟩; refine ⟨_, rfl, ?_⟩) | (go_at_call 10; (with_reducible refine (standing_Live.calls a0 t130 _ A43.out).mono ?_); rintro e w' ⟨rfl, ⟨nd, rfl⟩⟩) | (go_at_call 11; (with_reducible refine (novationref10_Live.calls a0 t131 _ A44.out).mono ?_); rintro e w' ⟨rfl, ⟨nd, rfl⟩⟩))
                  go_ret
                  exact ⟨by first | rfl | (simp [errW_none, errW_some] <;> rfl) | (simp [*, errW_none, errW_some] <;> rfl), by repeat (first | (with_reducible first | exact HB.out | apply below_alloc | apply pw_below_drewN | apply below_drew1) | exact HB.out)⟩
              · rw [if_neg c42] at H
                have c42b0 : (t118 == t120) = false := by simpa using c42
                (try (have c42b1 : decide (t118 = t120) = false := by simpa using c42))
                (try (have c42b2 : (t118 == t120) = false := by simpa using c42))
                (try (have c42b3 : ¬ (t118 = t120) := by simpa using c42))
                clear c42
                obtain rfl := Option.some.inj H
                go_enter Try.func3, Try.ntmps3
                go_wp2_with (first | ((with_reducible refine gate_callee (f := 7) rfl ?_); refine goesL_ (some 10) rfl rfl Try.func7 (by kernel_rfl) rfl #[] rfl (by (try simp only [List.map_toArray, List.map_cons, List.map_nil]); first | done | rfl | (simp only [List.length_drop, List.length_take]; rfl)) ?_; (with_reducible refine (novationlaw10_known.calls k  true _ A3.out).mono ?_); rintro e w49 ⟨rfl, hb⟩; refine ⟨_, rfl, ?_⟩; have n0_ := Aside0.mk (below_step (by repeat (first | (with_reducible first | exact HB.out | apply below_alloc | apply pw_below_drewN | apply below_drew1) | exact HB.out)) hb); clear HB; have HB := n0_; clear n0_; (try clear hb); (try clear hb2); (try clear hk); (try clear hi)) | ((with_reducible refine gate_callee (f := 8) rfl ?_); refine goesL_ (some 15) rfl rfl Try.func8 (by kernel_rfl) rfl #[.int .i64 a0, .int .i64 a1] rfl (by (try simp only [List.map_toArray, List.map_cons, List.map_nil]); first | done | rfl | (simp only [List.length_drop, List.length_take]; rfl)) ?_; (with_reducible refine (standing_Next.calls k a0 a1 t117 t118 _ A5.out).mono ?_); rintro e w' ⟨rfl, ⟨nd, rfl⟩⟩; refine ⟨_, rfl, ?_⟩) | ((with_reducible refine gate_callee (f := 9) rfl ?_); refine goesL_ (some 21) rfl rfl Try.func9 (by kernel_rfl) rfl #[.int .i64 a0, .int .i64 a1] rfl (by (try simp only [List.map_toArray, List.map_cons, List.map_nil]); first | done | rfl | (simp only [List.length_drop, List.length_take]; rfl)) ?_; (with_reducible refine (novationref10_NextStatus.calls k a0 a1 t119 t120 _ A6.out).mono ?_); rintro e w' ⟨rfl, ⟨nd, rfl⟩⟩; refine ⟨_, rfl, ?_⟩))
                go_ret
                exact ⟨by first | rfl | (simp [errW_none, errW_some] <;> rfl) | (simp [*, errW_none, errW_some] <;> rfl), by repeat (first | (with_reducible first | exact HB.out | apply below_alloc | apply pw_below_drewN | apply below_drew1) | exact HB.out)⟩
            · rw [if_neg c41] at H
              have c41b0 : (t117 == t119) = false := beq_eq_false_iff_ne.mpr c41
              have c41b1 : (t117 != t119) = true := bne_iff_ne.mpr c41
              obtain rfl := Option.some.inj H
              go_enter Try.func3, Try.ntmps3
              go_wp2_with (first | ((with_reducible refine gate_callee (f := 7) rfl ?_); refine goesL_ (some 10) rfl rfl Try.func7 (by kernel_rfl) rfl #[] rfl (by (try simp only [List.map_toArray, List.map_cons, List.map_nil]); first | done | rfl | (simp only [List.length_drop, List.length_take]; rfl)) ?_; (with_reducible refine (novationlaw10_known.calls k  true _ A3.out).mono ?_); rintro e w50 ⟨rfl, hb⟩; refine ⟨_, rfl, ?_⟩; have n0_ := Aside0.mk (below_step (by repeat (first | (with_reducible first | exact HB.out | apply below_alloc | apply pw_below_drewN | apply below_drew1) | exact HB.out)) hb); clear HB; have HB := n0_; clear n0_; (try clear hb); (try clear hb2); (try clear hk); (try clear hi)) | ((with_reducible refine gate_callee (f := 8) rfl ?_); refine goesL_ (some 15) rfl rfl Try.func8 (by kernel_rfl) rfl #[.int .i64 a0, .int .i64 a1] rfl (by (try simp only [List.map_toArray, List.map_cons, List.map_nil]); first | done | rfl | (simp only [List.length_drop, List.length_take]; rfl)) ?_; (with_reducible refine (standing_Next.calls k a0 a1 t117 t118 _ A5.out).mono ?_); rintro e w' ⟨rfl, ⟨nd, rfl⟩⟩; refine ⟨_, rfl, ?_⟩) | ((with_reducible refine gate_callee (f := 9) rfl ?_); refine goesL_ (some 21) rfl rfl Try.func9 (by kernel_rfl) rfl #[.int .i64 a0, .int .i64 a1] rfl (by (try simp only [List.map_toArray, List.map_cons, List.map_nil]); first | done | rfl | (simp only [List.length_drop, List.length_take]; rfl)) ?_; (with_reducible refine (novationref10_NextStatus.calls k a0 a1 t119 t120 _ A6.out).mono ?_); rintro e w' ⟨rfl, ⟨nd, rfl⟩⟩; refine ⟨_, rfl, ?_⟩))
              go_ret
              exact ⟨by first | rfl | (simp [errW_none, errW_some] <;> rfl) | (simp [*, errW_none, errW_some] <;> rfl), by repeat (first | (with_reducible first | exact HB.out | apply below_alloc | apply pw_below_drewN | apply below_drew1) | exact HB.out)⟩
          · rw [if_neg c40] at H
            have c40b0 : (a0 == 4) = false := beq_eq_false_iff_ne.mpr c40
            have c40b1 : (a0 != 4) = true := bne_iff_ne.mpr c40
            by_cases c51 : t117 = t119
            · rw [if_pos c51] at H
              have c51b0 : (t117 == t119) = true := beq_iff_eq.mpr c51
              have c51b1 : (t117 != t119) = false := bne_eq_false_iff_eq.mpr c51
              clear c51
              by_cases c52 : (t118 == t120) = true
              · rw [if_pos c52] at H
                have c52b0 : (t118 == t120) = true := c52
                (try (have c52b1 : decide (t118 = t120) = true := by simpa using c52))
                (try (have c52b2 : (t118 == t120) = true := by simpa using c52))
                clear c52
                replace H := Option.bind_eq_some_iff.mp H
                obtain ⟨t133, A530, H⟩ := H
                replace H : ((novationref10_Live.f a0).bind fun t134 => (if (t133 == t134) = true then ((standing_Name.f a0).bind fun t135 => (some (t135.toList == ([] : List UInt8)))) else (some false))) = some r := H
                have A53 := Aside0.mk A530
                clear A530
                replace H := Option.bind_eq_some_iff.mp H
                obtain ⟨t134, A540, H⟩ := H
                replace H : (if (t133 == t134) = true then ((standing_Name.f a0).bind fun t135 => (some (t135.toList == ([] : List UInt8)))) else (some false)) = some r := H
                have A54 := Aside0.mk A540
                clear A540
                by_cases c55 : (t133 == t134) = true
                · rw [if_pos c55] at H
                  have c55b0 : (t133 == t134) = true := c55
                  (try (have c55b1 : decide (t133 = t134) = true := by simpa using c55))
                  (try (have c55b2 : (t133 == t134) = true := by simpa using c55))
                  clear c55
                  replace H := Option.bind_eq_some_iff.mp H
                  obtain ⟨t135, A560, H⟩ := H
                  replace H : (some (t135.toList == ([] : List UInt8))) = some r := H
                  have A56 := Aside0.mk A560
                  clear A560
                  obtain rfl := Option.some.inj H
                  go_enter Try.func3, Try.ntmps3
                  go_wp2_with (first | ((with_reducible refine gate_callee (f := 7) rfl ?_); refine goesL_ (some 10) rfl rfl Try.func7 (by kernel_rfl) rfl #[] rfl (by (try simp only [List.map_toArray, List.map_cons, List.map_nil]); first | done | rfl | (simp only [List.length_drop, List.length_take]; rfl)) ?_; (with_reducible refine (novationlaw10_known.calls k  true _ A3.out).mono ?_); rintro e w57 ⟨rfl, hb⟩; refine ⟨_, rfl, ?_⟩; have n0_ := Aside0.mk (below_step (by repeat (first | (with_reducible first | exact HB.out | apply below_alloc | apply pw_below_drewN | apply below_drew1) | exact HB.out)) hb); clear HB; have HB := n0_; clear n0_; (try clear hb); (try clear hb2); (try clear hk); (try clear hi)) | ((with_reducible refine gate_callee (f := 8) rfl ?_); refine goesL_ (some 15) rfl rfl Try.func8 (by kernel_rfl) rfl #[.int .i64 a0, .int .i64 a1] rfl (by (try simp only [List.map_toArray, List.map_cons, List.map_nil]); first | done | rfl | (simp only [List.length_drop, List.length_take]; rfl)) ?_; (with_reducible refine (standing_Next.calls k a0 a1 t117 t118 _ A5.out).mono ?_); rintro e w' ⟨rfl, ⟨nd, rfl⟩⟩; refine ⟨_, rfl, ?_⟩) | ((with_reducible refine gate_callee (f := 9) rfl ?_); refine goesL_ (some 21) rfl rfl Try.func9 (by kernel_rfl) rfl #[.int .i64 a0, .int .i64 a1] rfl (by (try simp only [List.map_toArray, List.map_cons, List.map_nil]); first | done | rfl | (simp only [List.length_drop, List.length_take]; rfl)) ?_; (with_reducible refine (novationref10_NextStatus.calls k a0 a1 t119 t120 _ A6.out).mono ?_); rintro e w' ⟨rfl, ⟨nd, rfl⟩⟩; refine ⟨_, rfl, ?_⟩) | (go_at_call 10; (with_reducible refine (standing_Live.calls a0 t133 _ A53.out).mono ?_); rintro e w' ⟨rfl, ⟨nd, rfl⟩⟩) | (go_at_call 11; (with_reducible refine (novationref10_Live.calls a0 t134 _ A54.out).mono ?_); rintro e w' ⟨rfl, ⟨nd, rfl⟩⟩) | (go_at_call 12; (with_reducible refine (standing_Name.calls a0 t135 _ A56.out).mono ?_); rintro e w' ⟨rfl, ⟨nd, rfl⟩⟩))
                  go_ret
                  exact ⟨by first | rfl | (simp [errW_none, errW_some] <;> rfl) | (simp [*, errW_none, errW_some] <;> rfl), by repeat (first | (with_reducible first | exact HB.out | apply below_alloc | apply pw_below_drewN | apply below_drew1) | exact HB.out)⟩
                · rw [if_neg c55] at H
                  have c55b0 : (t133 == t134) = false := by simpa using c55
                  (try (have c55b1 : decide (t133 = t134) = false := by simpa using c55))
                  (try (have c55b2 : (t133 == t134) = false := by simpa using c55))
                  (try (have c55b3 : ¬ (t133 = t134) := by simpa using c55))
                  clear c55
                  obtain rfl := Option.some.inj H
                  go_enter Try.func3, Try.ntmps3
                  go_wp2_with (first | ((with_reducible refine gate_callee (f := 7) rfl ?_); refine goesL_ (some 10) rfl rfl Try.func7 (by kernel_rfl) rfl #[] rfl (by (try simp only [List.map_toArray, List.map_cons, List.map_nil]); first | done | rfl | (simp only [List.length_drop, List.length_take]; rfl)) ?_; (with_reducible refine (novationlaw10_known.calls k  true _ A3.out).mono ?_); rintro e w58 ⟨rfl, hb⟩; refine ⟨_, rfl, ?_⟩; have n0_ := Aside0.mk (below_step (by repeat (first | (with_reducible first | exact HB.out | apply below_alloc | apply pw_below_drewN | apply below_drew1) | exact HB.out)) hb); clear HB; have HB := n0_; clear n0_; (try clear hb); (try clear hb2); (try clear hk); (try clear hi)) | ((with_reducible refine gate_callee (f := 8) rfl ?_); refine goesL_ (some 15) rfl rfl Try.func8 (by kernel_rfl) rfl #[.int .i64 a0, .int .i64 a1] rfl (by (try simp only [List.map_toArray, List.map_cons, List.map_nil]); first | done | rfl | (simp only [List.length_drop, List.length_take]; rfl)) ?_; (with_reducible refine (standing_Next.calls k a0 a1 t117 t118 _ A5.out).mono ?_); rintro e w' ⟨rfl, ⟨nd, rfl⟩⟩; refine ⟨_, rfl, ?_⟩) | ((with_reducible refine gate_callee (f := 9) rfl ?_); refine goesL_ (some 21) rfl rfl Try.func9 (by kernel_rfl) rfl #[.int .i64 a0, .int .i64 a1] rfl (by (try simp only [List.map_toArray, List.map_cons, List.map_nil]); first | done | rfl | (simp only [List.length_drop, List.length_take]; rfl)) ?_; (with_reducible refine (novationref10_NextStatus.calls k a0 a1 t119 t120 _ A6.out).mono ?_); rintro e w' ⟨rfl, ⟨nd, rfl⟩⟩; refine ⟨_, rfl, ?_⟩) | (go_at_call 10; (with_reducible refine (standing_Live.calls a0 t133 _ A53.out).mono ?_); rintro e w' ⟨rfl, ⟨nd, rfl⟩⟩) | (go_at_call 11; (with_reducible refine (novationref10_Live.calls a0 t134 _ A54.out).mono ?_); rintro e w' ⟨rfl, ⟨nd, rfl⟩⟩))
                  go_ret
                  exact ⟨by first | rfl | (simp [errW_none, errW_some] <;> rfl) | (simp [*, errW_none, errW_some] <;> rfl), by repeat (first | (with_reducible first | exact HB.out | apply below_alloc | apply pw_below_drewN | apply below_drew1) | exact HB.out)⟩
              · rw [if_neg c52] at H
                have c52b0 : (t118 == t120) = false := by simpa using c52
                (try (have c52b1 : decide (t118 = t120) = false := by simpa using c52))
                (try (have c52b2 : (t118 == t120) = false := by simpa using c52))
                (try (have c52b3 : ¬ (t118 = t120) := by simpa using c52))
                clear c52
                obtain rfl := Option.some.inj H
                go_enter Try.func3, Try.ntmps3
                go_wp2_with (first | ((with_reducible refine gate_callee (f := 7) rfl ?_); refine goesL_ (some 10) rfl rfl Try.func7 (by kernel_rfl) rfl #[] rfl (by (try simp only [List.map_toArray, List.map_cons, List.map_nil]); first | done | rfl | (simp only [List.length_drop, List.length_take]; rfl)) ?_; (with_reducible refine (novationlaw10_known.calls k  true _ A3.out).mono ?_); rintro e w59 ⟨rfl, hb⟩; refine ⟨_, rfl, ?_⟩; have n0_ := Aside0.mk (below_step (by repeat (first | (with_reducible first | exact HB.out | apply below_alloc | apply pw_below_drewN | apply below_drew1) | exact HB.out)) hb); clear HB; have HB := n0_; clear n0_; (try clear hb); (try clear hb2); (try clear hk); (try clear hi)) | ((with_reducible refine gate_callee (f := 8) rfl ?_); refine goesL_ (some 15) rfl rfl Try.func8 (by kernel_rfl) rfl #[.int .i64 a0, .int .i64 a1] rfl (by (try simp only [List.map_toArray, List.map_cons, List.map_nil]); first | done | rfl | (simp only [List.length_drop, List.length_take]; rfl)) ?_; (with_reducible refine (standing_Next.calls k a0 a1 t117 t118 _ A5.out).mono ?_); rintro e w' ⟨rfl, ⟨nd, rfl⟩⟩; refine ⟨_, rfl, ?_⟩) | ((with_reducible refine gate_callee (f := 9) rfl ?_); refine goesL_ (some 21) rfl rfl Try.func9 (by kernel_rfl) rfl #[.int .i64 a0, .int .i64 a1] rfl (by (try simp only [List.map_toArray, List.map_cons, List.map_nil]); first | done | rfl | (simp only [List.length_drop, List.length_take]; rfl)) ?_; (with_reducible refine (novationref10_NextStatus.calls k a0 a1 t119 t120 _ A6.out).mono ?_); rintro e w' ⟨rfl, ⟨nd, rfl⟩⟩; refine ⟨_, rfl, ?_⟩))
                go_ret
                exact ⟨by first | rfl | (simp [errW_none, errW_some] <;> rfl) | (simp [*, errW_none, errW_some] <;> rfl), by repeat (first | (with_reducible first | exact HB.out | apply below_alloc | apply pw_below_drewN | apply below_drew1) | exact HB.out)⟩
            · rw [if_neg c51] at H
              have c51b0 : (t117 == t119) = false := beq_eq_false_iff_ne.mpr c51
              have c51b1 : (t117 != t119) = true := bne_iff_ne.mpr c51
              obtain rfl := Option.some.inj H
              go_enter Try.func3, Try.ntmps3
              go_wp2_with (first | ((with_reducible refine gate_callee (f := 7) rfl ?_); refine goesL_ (some 10) rfl rfl Try.func7 (by kernel_rfl) rfl #[] rfl (by (try simp only [List.map_toArray, List.map_cons, List.map_nil]); first | done | rfl | (simp only [List.length_drop, List.length_take]; rfl)) ?_; (with_reducible refine (novationlaw10_known.calls k  true _ A3.out).mono ?_); rintro e w60 ⟨rfl, hb⟩; refine ⟨_, rfl, ?_⟩; have n0_ := Aside0.mk (below_step (by repeat (first | (with_reducible first | exact HB.out | apply below_alloc | apply pw_below_drewN | apply below_drew1) | exact HB.out)) hb); clear HB; have HB := n0_; clear n0_; (try clear hb); (try clear hb2); (try clear hk); (try clear hi)) | ((with_reducible refine gate_callee (f := 8) rfl ?_); refine goesL_ (some 15) rfl rfl Try.func8 (by kernel_rfl) rfl #[.int .i64 a0, .int .i64 a1] rfl (by (try simp only [List.map_toArray, List.map_cons, List.map_nil]); first | done | rfl | (simp only [List.length_drop, List.length_take]; rfl)) ?_; (with_reducible refine (standing_Next.calls k a0 a1 t117 t118 _ A5.out).mono ?_); rintro e w' ⟨rfl, ⟨nd, rfl⟩⟩; refine ⟨_, rfl, ?_⟩) | ((with_reducible refine gate_callee (f := 9) rfl ?_); refine goesL_ (some 21) rfl rfl Try.func9 (by kernel_rfl) rfl #[.int .i64 a0, .int .i64 a1] rfl (by (try simp only [List.map_toArray, List.map_cons, List.map_nil]); first | done | rfl | (simp only [List.length_drop, List.length_take]; rfl)) ?_; (with_reducible refine (novationref10_NextStatus.calls k a0 a1 t119 t120 _ A6.out).mono ?_); rintro e w' ⟨rfl, ⟨nd, rfl⟩⟩; refine ⟨_, rfl, ?_⟩))
              go_ret
              exact ⟨by first | rfl | (simp [errW_none, errW_some] <;> rfl) | (simp [*, errW_none, errW_some] <;> rfl), by repeat (first | (with_reducible first | exact HB.out | apply below_alloc | apply pw_below_drewN | apply below_drew1) | exact HB.out)⟩
  · replace c4 := Bool.eq_false_iff.mpr c4
    subst c4
    have H1 : (some false) = some r := by rw [if_neg (show ¬ (false = true) by decide)] at H; exact H
    clear H
    have H := H1
    clear H1
    obtain rfl := Option.some.inj H
    go_enter Try.func3, Try.ntmps3
    go_wp2_with (first | ((with_reducible refine gate_callee (f := 7) rfl ?_); refine goesL_ (some 10) rfl rfl Try.func7 (by kernel_rfl) rfl #[] rfl (by (try simp only [List.map_toArray, List.map_cons, List.map_nil]); first | done | rfl | (simp only [List.length_drop, List.length_take]; rfl)) ?_; (with_reducible refine (novationlaw10_known.calls k  false _ A3.out).mono ?_); rintro e w61 ⟨rfl, hb⟩; refine ⟨_, rfl, ?_⟩; have n0_ := Aside0.mk (below_step (by repeat (first | (with_reducible first | exact HB.out | apply below_alloc | apply pw_below_drewN | apply below_drew1) | exact HB.out)) hb); clear HB; have HB := n0_; clear n0_; (try clear hb); (try clear hb2); (try clear hk); (try clear hi)))
    go_ret
    exact ⟨by first | rfl | (simp [errW_none, errW_some] <;> rfl) | (simp [*, errW_none, errW_some] <;> rfl), by repeat (first | (with_reducible first | exact HB.out | apply below_alloc | apply pw_below_drewN | apply below_drew1) | exact HB.out)⟩

/-- THE ONE PURE STATEMENT of novationlaw10_StandingAll: yours. -/
def novationlaw10_StandingAll.Pure : Prop := ∀ (a0 : Int) (a1 : Int), (Lit.int .i64 a0).wf = true → (Lit.int .i64 a1).wf = true → ∃ k, novationlaw10_StandingAll.f k a0 a1 = some true
theorem novationlaw10_StandingAll.walk (P : novationlaw10_StandingAll.Pure) (a0 : Int) (a1 : Int) (w : World) (w0 : (Lit.int .i64 a0).wf = true) (w1 : (Lit.int .i64 a1).wf = true) :
    Calls Try.prog 3 #[.int .i64 a0, .int .i64 a1] w fun e w' => e = .returned (.bool true) ∧ Below w.heap.size w w' := by
  obtain ⟨k, h⟩ := P a0 a1 w0 w1
  refine (novationlaw10_StandingAll.calls k a0 a1 true w h).mono ?_
  rintro e w' ⟨rfl, hd⟩
  exact ⟨rfl, hd⟩

end Go.Proofs.Ytmeppmmdlpkniaa.PStandingAll
