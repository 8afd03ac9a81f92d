-- Written by wip/x/xprint.py (an own program, over the kit's print).
import Derived.Test.YtdhedlkfpdakpaaQEventReadsx0
import Derived.Test.YtdhedlkfpdakpaaQEventReadsx1
import Derived.Test.YtdhedlkfpdakpaaQEventReadsx2
import Derived.Test.YtdhedlkfpdakpaaQEventReadsx3
import Derived.Test.YtdhedlkfpdakpaaQEventReadsx4
namespace Go.Proofs.Ytdhedlkfpdakpaa.QEventReads
open Go.RowKit Go.Proofs.YtdhedlkfpdakpaaW.PrintWords Go.Proofs.YtdhedlkfpdakpaaW.PrintLast Go.Proofs.YtdhedlkfpdakpaaW.PrintMore
attribute [local go_sem] max2_int min2_int max_two min_two max_three min_three max_four min_four   -- for this text's walks alone
set_option linter.unusedVariables false
set_option linter.unusedSimpArgs false

attribute [local go_sem high] eqA23
/-! ### novationlaw6_known: function 9 -/
def novationlaw6_known.f (k : Nat)  : Option (Bool) := (event_Put.f k 19 2 0 0 0 9 0 (-1)).bind fun bt182 => ((event_Read.f k bt182.1).bind fun bt186 => ((event_Put.f k 0 0 0 0 0 0 0 0).bind fun bt196 => ((event_Read.f k ([] : List Int)).bind fun bt200 => (if bt182.2 = 0 then (if (strOfNums bt182.1).toList = ([19, 4, 18, 1] : List UInt8) then (if bt186.2.2.2.2.2.2.2.2 = 0 then (if (bt186.1 == 19 && (bt186.2.1 == 2 && (bt186.2.2.1 == 0 && (bt186.2.2.2.1 == 0 && (bt186.2.2.2.2.1 == 0 && (bt186.2.2.2.2.2.1 == 9 && (bt186.2.2.2.2.2.2.1 == 0 && (bt186.2.2.2.2.2.2.2.1 == (-1))))))))) = true then ((event_Right.f k 19 2 0 0 0 9 0 (-1)).bind fun t210 => (if t210 = true then (if bt196.2 = 1 then (if bt200.2.2.2.2.2.2.2.2 = 13 then ((event_Fields.f k 17).bind fun t211 => (if t211.toList = ([65, 68, 81, 80] : List UInt8) then ((event_Number.f k (([97] : List Int)) 300).bind fun t215 => (some ((strOfNums t215).toList == ([97, 216, 4] : List UInt8)))) else (none))) else (none)) else (none)) else (none))) else (none)) else (none)) else (none)) else (none)))))
theorem novationlaw6_known.mono : ∀ k, LeO (novationlaw6_known.f k ) (novationlaw6_known.f (k + 1) ) := by
  intro  k
  unfold novationlaw6_known.f
  repeat' first
      | (with_reducible exact event_Fields.mono _ _)
      | (with_reducible exact event_Number.mono _ _ _)
      | (with_reducible exact event_Put.mono _ _ _ _ _ _ _ _ _)
      | (with_reducible exact event_Read.mono _ _)
      | (with_reducible exact event_Right.mono _ _ _ _ _ _ _ _ _)
      | (with_reducible exact LeO.refl _)
      | (with_reducible exact LeO.none _)
      | (with_reducible refine LeO.ite ?_ ?_)
      | (with_reducible refine LeO.bind ?_ (fun _ => ?_))
      | exact event_Fields.mono _ _
      | exact event_Number.mono _ _ _
      | exact event_Put.mono _ _ _ _ _ _ _ _ _
      | exact event_Read.mono _ _
      | exact event_Right.mono _ _ _ _ _ _ _ _ _
      | exact LeO.none _
      | refine LeO.ite ?_ ?_
      | refine LeO.bind ?_ (fun _ => ?_)
set_option maxHeartbeats 8000000 in
set_option maxRecDepth 100000 in
theorem novationlaw6_known.calls (k : Nat)  (r : Bool) (w : World) (h : novationlaw6_known.f k  = some r) :
    Calls Try.prog 9 #[] w fun e w' => e = .returned (.bool r) ∧ Below w.heap.size w w' := by
  have hu23 := Try.underlying23
  have HB := Aside0.mk (Below.refl w.heap.size w)
  have H : ((event_Put.f k 19 2 0 0 0 9 0 (-1)).bind fun bt182 => ((event_Read.f k bt182.1).bind fun bt186 => ((event_Put.f k 0 0 0 0 0 0 0 0).bind fun bt196 => ((event_Read.f k ([] : List Int)).bind fun bt200 => (if bt182.2 = 0 then (if (strOfNums bt182.1).toList = ([19, 4, 18, 1] : List UInt8) then (if bt186.2.2.2.2.2.2.2.2 = 0 then (if (bt186.1 == 19 && (bt186.2.1 == 2 && (bt186.2.2.1 == 0 && (bt186.2.2.2.1 == 0 && (bt186.2.2.2.2.1 == 0 && (bt186.2.2.2.2.2.1 == 9 && (bt186.2.2.2.2.2.2.1 == 0 && (bt186.2.2.2.2.2.2.2.1 == (-1))))))))) = true then ((event_Right.f k 19 2 0 0 0 9 0 (-1)).bind fun t210 => (if t210 = true then (if bt196.2 = 1 then (if bt200.2.2.2.2.2.2.2.2 = 13 then ((event_Fields.f k 17).bind fun t211 => (if t211.toList = ([65, 68, 81, 80] : List UInt8) then ((event_Number.f k (([97] : List Int)) 300).bind fun t215 => (some ((strOfNums t215).toList == ([97, 216, 4] : List UInt8)))) else (none))) else (none)) else (none)) else (none))) else (none)) else (none)) else (none)) else (none)))))) = some r := h
  clear h
  replace H := Option.bind_eq_some_iff.mp H
  obtain ⟨⟨t182, t185⟩, A10, H⟩ := H
  replace H : ((event_Read.f k t182).bind fun bt186 => ((event_Put.f k 0 0 0 0 0 0 0 0).bind fun bt196 => ((event_Read.f k ([] : List Int)).bind fun bt200 => (if t185 = 0 then (if (strOfNums t182).toList = ([19, 4, 18, 1] : List UInt8) then (if bt186.2.2.2.2.2.2.2.2 = 0 then (if (bt186.1 == 19 && (bt186.2.1 == 2 && (bt186.2.2.1 == 0 && (bt186.2.2.2.1 == 0 && (bt186.2.2.2.2.1 == 0 && (bt186.2.2.2.2.2.1 == 9 && (bt186.2.2.2.2.2.2.1 == 0 && (bt186.2.2.2.2.2.2.2.1 == (-1))))))))) = true then ((event_Right.f k 19 2 0 0 0 9 0 (-1)).bind fun t210 => (if t210 = true then (if bt196.2 = 1 then (if bt200.2.2.2.2.2.2.2.2 = 13 then ((event_Fields.f k 17).bind fun t211 => (if t211.toList = ([65, 68, 81, 80] : List UInt8) then ((event_Number.f k (([97] : List Int)) 300).bind fun t215 => (some ((strOfNums t215).toList == ([97, 216, 4] : List UInt8)))) else (none))) else (none)) else (none)) else (none))) else (none)) else (none)) else (none)) else (none))))) = some r := H
  have A1 := Aside0.mk A10
  clear A10
  replace H := Option.bind_eq_some_iff.mp H
  obtain ⟨⟨t186, t187, t188, t189, t190, t191, t192, t193, t194⟩, A20, H⟩ := H
  replace H : ((event_Put.f k 0 0 0 0 0 0 0 0).bind fun bt196 => ((event_Read.f k ([] : List Int)).bind fun bt200 => (if t185 = 0 then (if (strOfNums t182).toList = ([19, 4, 18, 1] : List UInt8) then (if t194 = 0 then (if (t186 == 19 && (t187 == 2 && (t188 == 0 && (t189 == 0 && (t190 == 0 && (t191 == 9 && (t192 == 0 && (t193 == (-1))))))))) = true then ((event_Right.f k 19 2 0 0 0 9 0 (-1)).bind fun t210 => (if t210 = true then (if bt196.2 = 1 then (if bt200.2.2.2.2.2.2.2.2 = 13 then ((event_Fields.f k 17).bind fun t211 => (if t211.toList = ([65, 68, 81, 80] : List UInt8) then ((event_Number.f k (([97] : List Int)) 300).bind fun t215 => (some ((strOfNums t215).toList == ([97, 216, 4] : List UInt8)))) else (none))) else (none)) else (none)) else (none))) else (none)) else (none)) else (none)) else (none)))) = some r := H
  have A2 := Aside0.mk A20
  clear A20
  replace H := Option.bind_eq_some_iff.mp H
  obtain ⟨⟨t196, t199⟩, A30, H⟩ := H
  replace H : ((event_Read.f k ([] : List Int)).bind fun bt200 => (if t185 = 0 then (if (strOfNums t182).toList = ([19, 4, 18, 1] : List UInt8) then (if t194 = 0 then (if (t186 == 19 && (t187 == 2 && (t188 == 0 && (t189 == 0 && (t190 == 0 && (t191 == 9 && (t192 == 0 && (t193 == (-1))))))))) = true then ((event_Right.f k 19 2 0 0 0 9 0 (-1)).bind fun t210 => (if t210 = true then (if t199 = 1 then (if bt200.2.2.2.2.2.2.2.2 = 13 then ((event_Fields.f k 17).bind fun t211 => (if t211.toList = ([65, 68, 81, 80] : List UInt8) then ((event_Number.f k (([97] : List Int)) 300).bind fun t215 => (some ((strOfNums t215).toList == ([97, 216, 4] : List UInt8)))) else (none))) else (none)) else (none)) else (none))) else (none)) else (none)) else (none)) else (none))) = some r := H
  have A3 := Aside0.mk A30
  clear A30
  replace H := Option.bind_eq_some_iff.mp H
  obtain ⟨⟨t200, t201, t202, t203, t204, t205, t206, t207, t208⟩, A40, H⟩ := H
  replace H : (if t185 = 0 then (if (strOfNums t182).toList = ([19, 4, 18, 1] : List UInt8) then (if t194 = 0 then (if (t186 == 19 && (t187 == 2 && (t188 == 0 && (t189 == 0 && (t190 == 0 && (t191 == 9 && (t192 == 0 && (t193 == (-1))))))))) = true then ((event_Right.f k 19 2 0 0 0 9 0 (-1)).bind fun t210 => (if t210 = true then (if t199 = 1 then (if t208 = 13 then ((event_Fields.f k 17).bind fun t211 => (if t211.toList = ([65, 68, 81, 80] : List UInt8) then ((event_Number.f k (([97] : List Int)) 300).bind fun t215 => (some ((strOfNums t215).toList == ([97, 216, 4] : List UInt8)))) else (none))) else (none)) else (none)) else (none))) else (none)) else (none)) else (none)) else (none)) = some r := H
  have A4 := Aside0.mk A40
  clear A40
  by_cases c5 : t185 = 0
  · rw [if_pos c5] at H
    have c5b0 : (t185 == 0) = true := beq_iff_eq.mpr c5
    have c5b1 : (t185 != 0) = false := bne_eq_false_iff_eq.mpr c5
    clear c5
    by_cases c6 : (strOfNums t182).toList = ([19, 4, 18, 1] : List UInt8)
    · rw [if_pos c6] at H
      have c6b0 : ((strOfNums t182).toList == ([19, 4, 18, 1] : List UInt8)) = true := beq_iff_eq.mpr c6
      have c6b1 : ((strOfNums t182).toList != ([19, 4, 18, 1] : List UInt8)) = false := bne_eq_false_iff_eq.mpr c6
      clear c6
      by_cases c7 : t194 = 0
      · rw [if_pos c7] at H
        have c7b0 : (t194 == 0) = true := beq_iff_eq.mpr c7
        have c7b1 : (t194 != 0) = false := bne_eq_false_iff_eq.mpr c7
        clear c7
        by_cases c8 : (t186 == 19 && (t187 == 2 && (t188 == 0 && (t189 == 0 && (t190 == 0 && (t191 == 9 && (t192 == 0 && (t193 == (-1))))))))) = true
        · rw [if_pos c8] at H
          have c8b0 : (t186 == 19 && (t187 == 2 && (t188 == 0 && (t189 == 0 && (t190 == 0 && (t191 == 9 && (t192 == 0 && (t193 == (-1))))))))) = true := c8
          (try (have c8b1 : decide (t186 = 19 && (t187 == 2 && (t188 == 0 && (t189 == 0 && (t190 == 0 && (t191 == 9 && (t192 == 0 && (t193 == (-1))))))))) = true := by simpa using c8))
          (try (have c8b2 : (t186 == 19 && (t187 == 2 && (t188 == 0 && (t189 == 0 && (t190 == 0 && (t191 == 9 && (t192 == 0 && (t193 == (-1))))))))) = true := by simpa using c8))
          clear c8
          replace H := Option.bind_eq_some_iff.mp H
          obtain ⟨t210, A90, H⟩ := H
          replace H : (if t210 = true then (if t199 = 1 then (if t208 = 13 then ((event_Fields.f k 17).bind fun t211 => (if t211.toList = ([65, 68, 81, 80] : List UInt8) then ((event_Number.f k (([97] : List Int)) 300).bind fun t215 => (some ((strOfNums t215).toList == ([97, 216, 4] : List UInt8)))) else (none))) else (none)) else (none)) else (none)) = some r := H
          have A9 := Aside0.mk A90
          clear A90
          by_cases c10 : t210 = true
          · subst c10
            have H1 : (if t199 = 1 then (if t208 = 13 then ((event_Fields.f k 17).bind fun t211 => (if t211.toList = ([65, 68, 81, 80] : List UInt8) then ((event_Number.f k (([97] : List Int)) 300).bind fun t215 => (some ((strOfNums t215).toList == ([97, 216, 4] : List UInt8)))) else (none))) else (none)) else (none)) = some r := by rw [if_pos rfl] at H; exact H
            clear H
            have H := H1
            clear H1
            by_cases c11 : t199 = 1
            · rw [if_pos c11] at H
              have c11b0 : (t199 == 1) = true := beq_iff_eq.mpr c11
              have c11b1 : (t199 != 1) = false := bne_eq_false_iff_eq.mpr c11
              clear c11
              by_cases c12 : t208 = 13
              · rw [if_pos c12] at H
                have c12b0 : (t208 == 13) = true := beq_iff_eq.mpr c12
                have c12b1 : (t208 != 13) = false := bne_eq_false_iff_eq.mpr c12
                clear c12
                replace H := Option.bind_eq_some_iff.mp H
                obtain ⟨t211, A130, H⟩ := H
                replace H : (if t211.toList = ([65, 68, 81, 80] : List UInt8) then ((event_Number.f k (([97] : List Int)) 300).bind fun t215 => (some ((strOfNums t215).toList == ([97, 216, 4] : List UInt8)))) else (none)) = some r := H
                have A13 := Aside0.mk A130
                clear A130
                by_cases c14 : t211.toList = ([65, 68, 81, 80] : List UInt8)
                · rw [if_pos c14] at H
                  have c14b0 : (t211.toList == ([65, 68, 81, 80] : List UInt8)) = true := beq_iff_eq.mpr c14
                  have c14b1 : (t211.toList != ([65, 68, 81, 80] : List UInt8)) = false := bne_eq_false_iff_eq.mpr c14
                  clear c14
                  obtain ⟨y212, hy212⟩ : ∃ y_ : List Int, y_ = (([97] : List Int)) := ⟨_, rfl⟩
                  replace H : ((event_Number.f k y212 300).bind fun t215 => (some ((strOfNums t215).toList == ([97, 216, 4] : List UInt8)))) = some r := by first | (rw [hy212]; with_reducible exact H) | (have H2_ := (Option.bind_some _ _).symm.trans H; rw [hy212]; with_reducible exact H2_) | (have H2_ := (Option.bind_some _ _).symm.trans H; with_reducible exact H2_) | with_reducible exact H | (rw [hy212]; exact H) | exact H
                  have Ny212 := Aside0.mk hy212
                  clear hy212
                  replace H := Option.bind_eq_some_iff.mp H
                  obtain ⟨t215, A150, H⟩ := H
                  replace H : (some ((strOfNums t215).toList == ([97, 216, 4] : List UInt8))) = some r := H
                  have A15 := Aside0.mk A150
                  clear A150
                  obtain rfl := Option.some.inj H
                  go_enter Try.func9, Try.ntmps9
                  go_wp2_with (first | ((with_reducible refine gate_dst (N := 1) rfl ?_); (try (refine gate_guard (by rfl) ?_; dsimp only)); refine box_event ?hg (N := 1) ?hd (cs := #[.int .i64 0, .int .i64 0, .int .i64 0, .int .i64 0, .int .i64 0, .int .i64 0, .int .i64 0, .int .i64 0]) (t := 23) ?hr ?_; (case hd => rfl); (case hg => rfl); (case hr => first | (go_simp; done) | (go_simp; rfl)); intro gb181 hg w16 hbox hb; have n0_ := Aside0.mk (below_step (by repeat (first | (with_reducible first | exact HB.out | apply below_alloc | apply pw_below_drewN | apply below_drew1) | exact HB.out)) hb); have n1_ := Aside0.mk (hbox); have n2_ := Aside0.mk ((by rw [hg]; exact (below_size (by repeat (first | (with_reducible first | exact HB.out | apply below_alloc | apply pw_below_drewN | apply below_drew1) | exact HB.out))) : w.heap.size ≤ gb181)); have n3_ := Aside0.mk ((by rw [hg]; exact (below_size (by repeat (first | (with_reducible first | exact HB.out | apply below_alloc | apply pw_below_drewN | apply below_drew1) | exact HB.out))) : w.heap.size ≤ gb181)); clear HB; have HB := n0_; have BK181 := n1_; have GW181 := n2_; have GE181 := n3_; clear n0_ n1_ n2_ n3_; clear hb hbox hg; have hcz17_0 : w16.cell? ⟨gb181, 0, none⟩ = some (.int .i64 0) := (blk_cell BK181.out 0).trans rfl; have hcz17_1 : w16.cell? ⟨gb181, 1, none⟩ = some (.int .i64 0) := (blk_cell BK181.out 1).trans rfl; have hcz17_2 : w16.cell? ⟨gb181, 2, none⟩ = some (.int .i64 0) := (blk_cell BK181.out 2).trans rfl; have hcz17_3 : w16.cell? ⟨gb181, 3, none⟩ = some (.int .i64 0) := (blk_cell BK181.out 3).trans rfl; have hcz17_4 : w16.cell? ⟨gb181, 4, none⟩ = some (.int .i64 0) := (blk_cell BK181.out 4).trans rfl; have hcz17_5 : w16.cell? ⟨gb181, 5, none⟩ = some (.int .i64 0) := (blk_cell BK181.out 5).trans rfl; have hcz17_6 : w16.cell? ⟨gb181, 6, none⟩ = some (.int .i64 0) := (blk_cell BK181.out 6).trans rfl; have hcz17_7 : w16.cell? ⟨gb181, 7, none⟩ = some (.int .i64 0) := (blk_cell BK181.out 7).trans rfl; have hfz17_0 := blk_frozen BK181.out 0; have hfz17_1 := blk_frozen BK181.out 1; have hfz17_2 := blk_frozen BK181.out 2; have hfz17_3 := blk_frozen BK181.out 3; have hfz17_4 := blk_frozen BK181.out 4; have hfz17_5 := blk_frozen BK181.out 5; have hfz17_6 := blk_frozen BK181.out 6; have hfz17_7 := blk_frozen BK181.out 7) | ((with_reducible refine gate_callee (f := 10) rfl ?_); refine goesL_ (some 13) rfl rfl Try.func10 (by kernel_rfl) rfl #[.agg #[.int .i64 19, .int .i64 2, .int .i64 0, .int .i64 0, .int .i64 0, .int .i64 9, .int .i64 0, .int .i64 (-1)]] rfl (by (try simp only [List.map_toArray, List.map_cons, List.map_nil]); first | done | rfl | (simp only [List.length_drop, List.length_take]; rfl)) ?_; (with_reducible refine (event_Put.calls k 19 2 0 0 0 9 0 (-1) t182 t185 _ A1.out).mono ?_); rintro e w18 ⟨v183, rfl, ho0, hb⟩; refine ⟨_, rfl, ?_⟩; have n0_ := Aside0.mk (Kd.V_lower (Kd.V_mono (ok' := fun k_ => k_ ≠ gb181) ho0 (fun k_ hk_ => (Kd.freshB (g := gb181) (o := .cells #[.int .i64 19, .int .i64 2, .int .i64 0, .int .i64 0, .int .i64 0, .int .i64 9, .int .i64 0, .int .i64 (-1)] 23 (0, 0)) (by (with_reducible repeat (first | refine blk_drewN ?_ _ | refine blk_drew ?_ | refine blk_alloc ?_ _)); refine blk_put (cs := #[.int .i64 19, .int .i64 2, .int .i64 0, .int .i64 0, .int .i64 0, .int .i64 9, .int .i64 0, .int .i64 0]) ?_ 7 _ rfl; (with_reducible repeat (first | refine blk_drewN ?_ _ | refine blk_drew ?_ | refine blk_alloc ?_ _)); refine blk_put (cs := #[.int .i64 19, .int .i64 2, .int .i64 0, .int .i64 0, .int .i64 0, .int .i64 9, .int .i64 0, .int .i64 0]) ?_ 6 _ rfl; (with_reducible repeat (first | refine blk_drewN ?_ _ | refine blk_drew ?_ | refine blk_alloc ?_ _)); refine blk_put (cs := #[.int .i64 19, .int .i64 2, .int .i64 0, .int .i64 0, .int .i64 0, .int .i64 0, .int .i64 0, .int .i64 0]) ?_ 5 _ rfl; (with_reducible repeat (first | refine blk_drewN ?_ _ | refine blk_drew ?_ | refine blk_alloc ?_ _)); refine blk_put (cs := #[.int .i64 19, .int .i64 2, .int .i64 0, .int .i64 0, .int .i64 0, .int .i64 0, .int .i64 0, .int .i64 0]) ?_ 4 _ rfl; (with_reducible repeat (first | refine blk_drewN ?_ _ | refine blk_drew ?_ | refine blk_alloc ?_ _)); refine blk_put (cs := #[.int .i64 19, .int .i64 2, .int .i64 0, .int .i64 0, .int .i64 0, .int .i64 0, .int .i64 0, .int .i64 0]) ?_ 3 _ rfl; (with_reducible repeat (first | refine blk_drewN ?_ _ | refine blk_drew ?_ | refine blk_alloc ?_ _)); refine blk_put (cs := #[.int .i64 19, .int .i64 2, .int .i64 0, .int .i64 0, .int .i64 0, .int .i64 0, .int .i64 0, .int .i64 0]) ?_ 2 _ rfl; (with_reducible repeat (first | refine blk_drewN ?_ _ | refine blk_drew ?_ | refine blk_alloc ?_ _)); refine blk_put (cs := #[.int .i64 19, .int .i64 0, .int .i64 0, .int .i64 0, .int .i64 0, .int .i64 0, .int .i64 0, .int .i64 0]) ?_ 1 _ rfl; (with_reducible repeat (first | refine blk_drewN ?_ _ | refine blk_drew ?_ | refine blk_alloc ?_ _)); refine blk_put (cs := #[.int .i64 0, .int .i64 0, .int .i64 0, .int .i64 0, .int .i64 0, .int .i64 0, .int .i64 0, .int .i64 0]) ?_ 0 _ rfl; (with_reducible repeat (first | refine blk_drewN ?_ _ | refine blk_drew ?_ | refine blk_alloc ?_ _)); exact BK181.out) k_ hk_))) (below_size (by repeat (first | (with_reducible first | exact HB.out | apply below_alloc | apply pw_below_drewN | apply below_drew1 | refine below_set ?_ GE181.out) | exact HB.out)))); have n1_ := Aside0.mk (blk_below (g := gb181) (o := .cells #[.int .i64 19, .int .i64 2, .int .i64 0, .int .i64 0, .int .i64 0, .int .i64 9, .int .i64 0, .int .i64 (-1)] 23 (0, 0)) (by (with_reducible repeat (first | refine blk_drewN ?_ _ | refine blk_drew ?_ | refine blk_alloc ?_ _)); refine blk_put (cs := #[.int .i64 19, .int .i64 2, .int .i64 0, .int .i64 0, .int .i64 0, .int .i64 9, .int .i64 0, .int .i64 0]) ?_ 7 _ rfl; (with_reducible repeat (first | refine blk_drewN ?_ _ | refine blk_drew ?_ | refine blk_alloc ?_ _)); refine blk_put (cs := #[.int .i64 19, .int .i64 2, .int .i64 0, .int .i64 0, .int .i64 0, .int .i64 9, .int .i64 0, .int .i64 0]) ?_ 6 _ rfl; (with_reducible repeat (first | refine blk_drewN ?_ _ | refine blk_drew ?_ | refine blk_alloc ?_ _)); refine blk_put (cs := #[.int .i64 19, .int .i64 2, .int .i64 0, .int .i64 0, .int .i64 0, .int .i64 0, .int .i64 0, .int .i64 0]) ?_ 5 _ rfl; (with_reducible repeat (first | refine blk_drewN ?_ _ | refine blk_drew ?_ | refine blk_alloc ?_ _)); refine blk_put (cs := #[.int .i64 19, .int .i64 2, .int .i64 0, .int .i64 0, .int .i64 0, .int .i64 0, .int .i64 0, .int .i64 0]) ?_ 4 _ rfl; (with_reducible repeat (first | refine blk_drewN ?_ _ | refine blk_drew ?_ | refine blk_alloc ?_ _)); refine blk_put (cs := #[.int .i64 19, .int .i64 2, .int .i64 0, .int .i64 0, .int .i64 0, .int .i64 0, .int .i64 0, .int .i64 0]) ?_ 3 _ rfl; (with_reducible repeat (first | refine blk_drewN ?_ _ | refine blk_drew ?_ | refine blk_alloc ?_ _)); refine blk_put (cs := #[.int .i64 19, .int .i64 2, .int .i64 0, .int .i64 0, .int .i64 0, .int .i64 0, .int .i64 0, .int .i64 0]) ?_ 2 _ rfl; (with_reducible repeat (first | refine blk_drewN ?_ _ | refine blk_drew ?_ | refine blk_alloc ?_ _)); refine blk_put (cs := #[.int .i64 19, .int .i64 0, .int .i64 0, .int .i64 0, .int .i64 0, .int .i64 0, .int .i64 0, .int .i64 0]) ?_ 1 _ rfl; (with_reducible repeat (first | refine blk_drewN ?_ _ | refine blk_drew ?_ | refine blk_alloc ?_ _)); refine blk_put (cs := #[.int .i64 0, .int .i64 0, .int .i64 0, .int .i64 0, .int .i64 0, .int .i64 0, .int .i64 0, .int .i64 0]) ?_ 0 _ rfl; (with_reducible repeat (first | refine blk_drewN ?_ _ | refine blk_drew ?_ | refine blk_alloc ?_ _)); exact BK181.out) hb); have n2_ := Aside0.mk (below_step (by repeat (first | (with_reducible first | exact HB.out | apply below_alloc | apply pw_below_drewN | apply below_drew1 | refine below_set ?_ GE181.out) | exact HB.out)) hb); clear BK181; clear HB; have HO184 := n0_; have BK181 := n1_; have HB := n2_; clear n0_ n1_ n2_; (try clear hb); (try clear hb2); (try clear hk); (try clear hi); (try clear ho0); obtain ⟨Ao19, co19, eo19⟩ := Kd.V_slice HO184.out; subst eo19) | ((with_reducible refine gate_callee (f := 20) rfl ?_); refine goesL_ (some 18) rfl rfl Try.func20 (by kernel_rfl) rfl #[.slice Ao19 t182.length co19] rfl (by (try simp only [List.map_toArray, List.map_cons, List.map_nil]); first | done | rfl | (simp only [List.length_drop, List.length_take]; rfl)) ?_; (with_reducible refine (event_Read.calls k _ _ t182 t186 t187 t188 t189 t190 t191 t192 t193 t194 _ ?side1 ?side2 A2.out).mono ?_); (case side1 => repeat (first | exact (Kd.V_reads' HO184.out).2.2 | (with_reducible refine Kd.C_alloc ?_ _) | (with_reducible refine Kd.C_drewN ?_ _) | (with_reducible refine Kd.C_drew ?_))); (case side2 => exact (Kd.V_reads' HO184.out).2.1); rintro e w20 ⟨rfl, hb⟩; refine ⟨_, rfl, ?_⟩; have n0_ := Aside0.mk (Kd.V_below (by (with_reducible repeat (first | apply Kd.V_alloc | apply Kd.V_drewN | apply Kd.V_drew)); exact HO184.out) hb); have n1_ := Aside0.mk (blk_below (g := gb181) (o := .cells #[.int .i64 19, .int .i64 2, .int .i64 0, .int .i64 0, .int .i64 0, .int .i64 9, .int .i64 0, .int .i64 (-1)] 23 (0, 0)) (by (with_reducible repeat (first | refine blk_drewN ?_ _ | refine blk_drew ?_ | refine blk_alloc ?_ _)); exact BK181.out) hb); have n2_ := Aside0.mk (below_step (by repeat (first | (with_reducible first | exact HB.out | apply below_alloc | apply pw_below_drewN | apply below_drew1 | refine below_set ?_ GE181.out) | exact HB.out)) hb); clear HO184; clear BK181; clear HB; have HO184 := n0_; have BK181 := n1_; have HB := n2_; clear n0_ n1_ n2_; (try clear hb); (try clear hb2); (try clear hk); (try clear hi)) | ((with_reducible refine gate_dst (N := 4) rfl ?_); (try (refine gate_guard (by rfl) ?_; dsimp only)); refine box_event ?hg (N := 4) ?hd (cs := #[.int .i64 0, .int .i64 0, .int .i64 0, .int .i64 0, .int .i64 0, .int .i64 0, .int .i64 0, .int .i64 0]) (t := 23) ?hr ?_; (case hd => rfl); (case hg => rfl); (case hr => first | (go_simp; done) | (go_simp; rfl)); intro gb195 hg w21 hbox hb; have n0_ := Aside0.mk (Kd.V_below (Kd.V_elderB (by (with_reducible repeat (first | apply Kd.V_alloc | apply Kd.V_drewN | apply Kd.V_drew)); exact HO184.out) gb195 (Nat.le_of_eq hg.symm)) hb); have n1_ := Aside0.mk (blk_below (g := gb181) (o := .cells #[.int .i64 19, .int .i64 2, .int .i64 0, .int .i64 0, .int .i64 0, .int .i64 9, .int .i64 0, .int .i64 (-1)] 23 (0, 0)) (by (with_reducible repeat (first | refine blk_drewN ?_ _ | refine blk_drew ?_ | refine blk_alloc ?_ _)); exact BK181.out) hb); have n2_ := Aside0.mk (below_step (by repeat (first | (with_reducible first | exact HB.out | apply below_alloc | apply pw_below_drewN | apply below_drew1 | refine below_set ?_ GE181.out) | exact HB.out)) hb); have n3_ := Aside0.mk (hbox); have n4_ := Aside0.mk ((by rw [hg]; exact (below_size (by repeat (first | (with_reducible first | exact HB.out | apply below_alloc | apply pw_below_drewN | apply below_drew1 | refine below_set ?_ GE181.out) | exact HB.out))) : w.heap.size ≤ gb195)); have n5_ := Aside0.mk ((by rw [hg]; exact (below_size (by repeat (first | (with_reducible first | exact HB.out | apply below_alloc | apply pw_below_drewN | apply below_drew1 | refine below_set ?_ GE181.out) | exact HB.out))) : w.heap.size ≤ gb195)); have n6_ := Aside0.mk ((by rw [hg]; exact Nat.ne_of_lt (blk_lt (g := gb181) (o := .cells #[.int .i64 19, .int .i64 2, .int .i64 0, .int .i64 0, .int .i64 0, .int .i64 9, .int .i64 0, .int .i64 (-1)] 23 (0, 0)) (by (with_reducible repeat (first | refine blk_drewN ?_ _ | refine blk_drew ?_ | refine blk_alloc ?_ _)); exact BK181.out)) : gb181 ≠ gb195)); have n7_ := Aside0.mk ((by rw [hg]; exact Nat.ne_of_gt (blk_lt (g := gb181) (o := .cells #[.int .i64 19, .int .i64 2, .int .i64 0, .int .i64 0, .int .i64 0, .int .i64 9, .int .i64 0, .int .i64 (-1)] 23 (0, 0)) (by (with_reducible repeat (first | refine blk_drewN ?_ _ | refine blk_drew ?_ | refine blk_alloc ?_ _)); exact BK181.out)) : gb195 ≠ gb181)); clear HO184; clear BK181; clear HB; have HO184 := n0_; have BK181 := n1_; have HB := n2_; have BK195 := n3_; have GW195 := n4_; have GE195 := n5_; have NB181_195 := n6_; have NB195_181 := n7_; clear n0_ n1_ n2_ n3_ n4_ n5_ n6_ n7_; clear hb hbox hg; have hnb22 := NB195_181.out; have hnc22 := NB181_195.out; have hcz23_0 : w21.cell? ⟨gb195, 0, none⟩ = some (.int .i64 0) := (blk_cell BK195.out 0).trans rfl; have hcz23_1 : w21.cell? ⟨gb195, 1, none⟩ = some (.int .i64 0) := (blk_cell BK195.out 1).trans rfl; have hcz23_2 : w21.cell? ⟨gb195, 2, none⟩ = some (.int .i64 0) := (blk_cell BK195.out 2).trans rfl; have hcz23_3 : w21.cell? ⟨gb195, 3, none⟩ = some (.int .i64 0) := (blk_cell BK195.out 3).trans rfl; have hcz23_4 : w21.cell? ⟨gb195, 4, none⟩ = some (.int .i64 0) := (blk_cell BK195.out 4).trans rfl; have hcz23_5 : w21.cell? ⟨gb195, 5, none⟩ = some (.int .i64 0) := (blk_cell BK195.out 5).trans rfl; have hcz23_6 : w21.cell? ⟨gb195, 6, none⟩ = some (.int .i64 0) := (blk_cell BK195.out 6).trans rfl; have hcz23_7 : w21.cell? ⟨gb195, 7, none⟩ = some (.int .i64 0) := (blk_cell BK195.out 7).trans rfl; have hfz23_0 := blk_frozen BK195.out 0; have hfz23_1 := blk_frozen BK195.out 1; have hfz23_2 := blk_frozen BK195.out 2; have hfz23_3 := blk_frozen BK195.out 3; have hfz23_4 := blk_frozen BK195.out 4; have hfz23_5 := blk_frozen BK195.out 5; have hfz23_6 := blk_frozen BK195.out 6; have hfz23_7 := blk_frozen BK195.out 7) | ((with_reducible refine gate_callee (f := 10) rfl ?_); refine goesL_ (some 23) rfl rfl Try.func10 (by kernel_rfl) rfl #[.agg #[.int .i64 0, .int .i64 0, .int .i64 0, .int .i64 0, .int .i64 0, .int .i64 0, .int .i64 0, .int .i64 0]] rfl (by (try simp only [List.map_toArray, List.map_cons, List.map_nil]); first | done | rfl | (simp only [List.length_drop, List.length_take]; rfl)) ?_; (with_reducible refine (event_Put.calls k 0 0 0 0 0 0 0 0 t196 t199 _ A3.out).mono ?_); rintro e w24 ⟨v197, rfl, ho0, hb⟩; refine ⟨_, rfl, ?_⟩; have n0_ := Aside0.mk (Kd.V_below (by (with_reducible repeat (first | apply Kd.V_alloc | apply Kd.V_drewN | apply Kd.V_drew)); exact (Kd.V_mono (Kd.V_far (p := ⟨gb195, 7, none⟩) (Kd.V_far (p := ⟨gb195, 6, none⟩) (Kd.V_far (p := ⟨gb195, 5, none⟩) (Kd.V_far (p := ⟨gb195, 4, none⟩) (Kd.V_far (p := ⟨gb195, 3, none⟩) (Kd.V_far (p := ⟨gb195, 2, none⟩) (Kd.V_far (p := ⟨gb195, 1, none⟩) (Kd.V_far (p := ⟨gb195, 0, none⟩) (Kd.V_mono HO184.out (fun k_ hk => (⟨hk, hk.2⟩ : _ ∧ k_ ≠ gb195))) (fun _ hk => hk.2) (.int .i64 t186)) (fun _ hk => hk.2) (.int .i64 t187)) (fun _ hk => hk.2) (.int .i64 t188)) (fun _ hk => hk.2) (.int .i64 t189)) (fun _ hk => hk.2) (.int .i64 t190)) (fun _ hk => hk.2) (.int .i64 t191)) (fun _ hk => hk.2) (.int .i64 t192)) (fun _ hk => hk.2) (.int .i64 t193)) (fun _ h_ => h_.1))) hb); have n1_ := Aside0.mk (Kd.V_lower (Kd.V_mono (ok' := fun k_ => k_ ≠ gb181 ∧ k_ ≠ gb195) ho0 (fun k_ hk_ => ⟨(Kd.freshB (g := gb181) (o := .cells #[.int .i64 19, .int .i64 2, .int .i64 0, .int .i64 0, .int .i64 0, .int .i64 9, .int .i64 0, .int .i64 (-1)] 23 (0, 0)) (by (with_reducible repeat (first | refine blk_drewN ?_ _ | refine blk_drew ?_ | refine blk_alloc ?_ _)); refine blk_far ?_ NB181_195.out _; (with_reducible repeat (first | refine blk_drewN ?_ _ | refine blk_drew ?_ | refine blk_alloc ?_ _)); refine blk_far ?_ NB181_195.out _; (with_reducible repeat (first | refine blk_drewN ?_ _ | refine blk_drew ?_ | refine blk_alloc ?_ _)); refine blk_far ?_ NB181_195.out _; (with_reducible repeat (first | refine blk_drewN ?_ _ | refine blk_drew ?_ | refine blk_alloc ?_ _)); refine blk_far ?_ NB181_195.out _; (with_reducible repeat (first | refine blk_drewN ?_ _ | refine blk_drew ?_ | refine blk_alloc ?_ _)); refine blk_far ?_ NB181_195.out _; (with_reducible repeat (first | refine blk_drewN ?_ _ | refine blk_drew ?_ | refine blk_alloc ?_ _)); refine blk_far ?_ NB181_195.out _; (with_reducible repeat (first | refine blk_drewN ?_ _ | refine blk_drew ?_ | refine blk_alloc ?_ _)); refine blk_far ?_ NB181_195.out _; (with_reducible repeat (first | refine blk_drewN ?_ _ | refine blk_drew ?_ | refine blk_alloc ?_ _)); refine blk_far ?_ NB181_195.out _; (with_reducible repeat (first | refine blk_drewN ?_ _ | refine blk_drew ?_ | refine blk_alloc ?_ _)); exact BK181.out) k_ hk_), (Kd.freshB (g := gb195) (o := .cells #[.int .i64 t186, .int .i64 t187, .int .i64 t188, .int .i64 t189, .int .i64 t190, .int .i64 t191, .int .i64 t192, .int .i64 t193] 23 (0, 0)) (by (with_reducible repeat (first | refine blk_drewN ?_ _ | refine blk_drew ?_ | refine blk_alloc ?_ _)); refine blk_put (cs := #[.int .i64 t186, .int .i64 t187, .int .i64 t188, .int .i64 t189, .int .i64 t190, .int .i64 t191, .int .i64 t192, .int .i64 0]) ?_ 7 _ rfl; (with_reducible repeat (first | refine blk_drewN ?_ _ | refine blk_drew ?_ | refine blk_alloc ?_ _)); refine blk_put (cs := #[.int .i64 t186, .int .i64 t187, .int .i64 t188, .int .i64 t189, .int .i64 t190, .int .i64 t191, .int .i64 0, .int .i64 0]) ?_ 6 _ rfl; (with_reducible repeat (first | refine blk_drewN ?_ _ | refine blk_drew ?_ | refine blk_alloc ?_ _)); refine blk_put (cs := #[.int .i64 t186, .int .i64 t187, .int .i64 t188, .int .i64 t189, .int .i64 t190, .int .i64 0, .int .i64 0, .int .i64 0]) ?_ 5 _ rfl; (with_reducible repeat (first | refine blk_drewN ?_ _ | refine blk_drew ?_ | refine blk_alloc ?_ _)); refine blk_put (cs := #[.int .i64 t186, .int .i64 t187, .int .i64 t188, .int .i64 t189, .int .i64 0, .int .i64 0, .int .i64 0, .int .i64 0]) ?_ 4 _ rfl; (with_reducible repeat (first | refine blk_drewN ?_ _ | refine blk_drew ?_ | refine blk_alloc ?_ _)); refine blk_put (cs := #[.int .i64 t186, .int .i64 t187, .int .i64 t188, .int .i64 0, .int .i64 0, .int .i64 0, .int .i64 0, .int .i64 0]) ?_ 3 _ rfl; (with_reducible repeat (first | refine blk_drewN ?_ _ | refine blk_drew ?_ | refine blk_alloc ?_ _)); refine blk_put (cs := #[.int .i64 t186, .int .i64 t187, .int .i64 0, .int .i64 0, .int .i64 0, .int .i64 0, .int .i64 0, .int .i64 0]) ?_ 2 _ rfl; (with_reducible repeat (first | refine blk_drewN ?_ _ | refine blk_drew ?_ | refine blk_alloc ?_ _)); refine blk_put (cs := #[.int .i64 t186, .int .i64 0, .int .i64 0, .int .i64 0, .int .i64 0, .int .i64 0, .int .i64 0, .int .i64 0]) ?_ 1 _ rfl; (with_reducible repeat (first | refine blk_drewN ?_ _ | refine blk_drew ?_ | refine blk_alloc ?_ _)); refine blk_put (cs := #[.int .i64 0, .int .i64 0, .int .i64 0, .int .i64 0, .int .i64 0, .int .i64 0, .int .i64 0, .int .i64 0]) ?_ 0 _ rfl; (with_reducible repeat (first | refine blk_drewN ?_ _ | refine blk_drew ?_ | refine blk_alloc ?_ _)); exact BK195.out) k_ hk_)⟩)) (below_size (by repeat (first | (with_reducible first | exact HB.out | apply below_alloc | apply pw_below_drewN | apply below_drew1 | refine below_set ?_ GE181.out | refine below_set ?_ GE195.out) | exact HB.out)))); have n2_ := Aside0.mk (blk_below (g := gb181) (o := .cells #[.int .i64 19, .int .i64 2, .int .i64 0, .int .i64 0, .int .i64 0, .int .i64 9, .int .i64 0, .int .i64 (-1)] 23 (0, 0)) (by (with_reducible repeat (first | refine blk_drewN ?_ _ | refine blk_drew ?_ | refine blk_alloc ?_ _)); refine blk_far ?_ NB181_195.out _; (with_reducible repeat (first | refine blk_drewN ?_ _ | refine blk_drew ?_ | refine blk_alloc ?_ _)); refine blk_far ?_ NB181_195.out _; (with_reducible repeat (first | refine blk_drewN ?_ _ | refine blk_drew ?_ | refine blk_alloc ?_ _)); refine blk_far ?_ NB181_195.out _; (with_reducible repeat (first | refine blk_drewN ?_ _ | refine blk_drew ?_ | refine blk_alloc ?_ _)); refine blk_far ?_ NB181_195.out _; (with_reducible repeat (first | refine blk_drewN ?_ _ | refine blk_drew ?_ | refine blk_alloc ?_ _)); refine blk_far ?_ NB181_195.out _; (with_reducible repeat (first | refine blk_drewN ?_ _ | refine blk_drew ?_ | refine blk_alloc ?_ _)); refine blk_far ?_ NB181_195.out _; (with_reducible repeat (first | refine blk_drewN ?_ _ | refine blk_drew ?_ | refine blk_alloc ?_ _)); refine blk_far ?_ NB181_195.out _; (with_reducible repeat (first | refine blk_drewN ?_ _ | refine blk_drew ?_ | refine blk_alloc ?_ _)); refine blk_far ?_ NB181_195.out _; (with_reducible repeat (first | refine blk_drewN ?_ _ | refine blk_drew ?_ | refine blk_alloc ?_ _)); exact BK181.out) hb); have n3_ := Aside0.mk (blk_below (g := gb195) (o := .cells #[.int .i64 t186, .int .i64 t187, .int .i64 t188, .int .i64 t189, .int .i64 t190, .int .i64 t191, .int .i64 t192, .int .i64 t193] 23 (0, 0)) (by (with_reducible repeat (first | refine blk_drewN ?_ _ | refine blk_drew ?_ | refine blk_alloc ?_ _)); refine blk_put (cs := #[.int .i64 t186, .int .i64 t187, .int .i64 t188, .int .i64 t189, .int .i64 t190, .int .i64 t191, .int .i64 t192, .int .i64 0]) ?_ 7 _ rfl; (with_reducible repeat (first | refine blk_drewN ?_ _ | refine blk_drew ?_ | refine blk_alloc ?_ _)); refine blk_put (cs := #[.int .i64 t186, .int .i64 t187, .int .i64 t188, .int .i64 t189, .int .i64 t190, .int .i64 t191, .int .i64 0, .int .i64 0]) ?_ 6 _ rfl; (with_reducible repeat (first | refine blk_drewN ?_ _ | refine blk_drew ?_ | refine blk_alloc ?_ _)); refine blk_put (cs := #[.int .i64 t186, .int .i64 t187, .int .i64 t188, .int .i64 t189, .int .i64 t190, .int .i64 0, .int .i64 0, .int .i64 0]) ?_ 5 _ rfl; (with_reducible repeat (first | refine blk_drewN ?_ _ | refine blk_drew ?_ | refine blk_alloc ?_ _)); refine blk_put (cs := #[.int .i64 t186, .int .i64 t187, .int .i64 t188, .int .i64 t189, .int .i64 0, .int .i64 0, .int .i64 0, .int .i64 0]) ?_ 4 _ rfl; (with_reducible repeat (first | refine blk_drewN ?_ _ | refine blk_drew ?_ | refine blk_alloc ?_ _)); refine blk_put (cs := #[.int .i64 t186, .int .i64 t187, .int .i64 t188, .int .i64 0, .int .i64 0, .int .i64 0, .int .i64 0, .int .i64 0]) ?_ 3 _ rfl; (with_reducible repeat (first | refine blk_drewN ?_ _ | refine blk_drew ?_ | refine blk_alloc ?_ _)); refine blk_put (cs := #[.int .i64 t186, .int .i64 t187, .int .i64 0, .int .i64 0, .int .i64 0, .int .i64 0, .int .i64 0, .int .i64 0]) ?_ 2 _ rfl; (with_reducible repeat (first | refine blk_drewN ?_ _ | refine blk_drew ?_ | refine blk_alloc ?_ _)); refine blk_put (cs := #[.int .i64 t186, .int .i64 0, .int .i64 0, .int .i64 0, .int .i64 0, .int .i64 0, .int .i64 0, .int .i64 0]) ?_ 1 _ rfl; (with_reducible repeat (first | refine blk_drewN ?_ _ | refine blk_drew ?_ | refine blk_alloc ?_ _)); refine blk_put (cs := #[.int .i64 0, .int .i64 0, .int .i64 0, .int .i64 0, .int .i64 0, .int .i64 0, .int .i64 0, .int .i64 0]) ?_ 0 _ rfl; (with_reducible repeat (first | refine blk_drewN ?_ _ | refine blk_drew ?_ | refine blk_alloc ?_ _)); exact BK195.out) hb); have n4_ := Aside0.mk (below_step (by repeat (first | (with_reducible first | exact HB.out | apply below_alloc | apply pw_below_drewN | apply below_drew1 | refine below_set ?_ GE181.out | refine below_set ?_ GE195.out) | exact HB.out)) hb); clear HO184; clear BK181; clear BK195; clear HB; have HO184 := n0_; have HO198 := n1_; have BK181 := n2_; have BK195 := n3_; have HB := n4_; clear n0_ n1_ n2_ n3_ n4_; (try clear hb); (try clear hb2); (try clear hk); (try clear hi); (try clear ho0)) | ((with_reducible refine gate_callee (f := 20) rfl ?_); refine goesL_ (some 27) rfl rfl Try.func20 (by kernel_rfl) rfl #[.slice none 0 0] rfl (by (try simp only [List.map_toArray, List.map_cons, List.map_nil]); first | done | rfl | (simp only [List.length_drop, List.length_take]; rfl)) ?_; (refine (event_Read.calls k _ _ ([] : List Int) t200 t201 t202 t203 t204 t205 t206 t207 t208 _ ?side1 ?side2 A4.out).mono ?_); (case side1 => exact Kd.C_nil _ _); (case side2 => exact Nat.le_refl _); rintro e w25 ⟨rfl, hb⟩; refine ⟨_, rfl, ?_⟩; have n0_ := Aside0.mk (Kd.V_below (by (with_reducible repeat (first | apply Kd.V_alloc | apply Kd.V_drewN | apply Kd.V_drew)); exact HO184.out) hb); have n1_ := Aside0.mk (Kd.V_below (by (with_reducible repeat (first | apply Kd.V_alloc | apply Kd.V_drewN | apply Kd.V_drew)); exact HO198.out) hb); have n2_ := Aside0.mk (blk_below (g := gb181) (o := .cells #[.int .i64 19, .int .i64 2, .int .i64 0, .int .i64 0, .int .i64 0, .int .i64 9, .int .i64 0, .int .i64 (-1)] 23 (0, 0)) (by (with_reducible repeat (first | refine blk_drewN ?_ _ | refine blk_drew ?_ | refine blk_alloc ?_ _)); exact BK181.out) hb); have n3_ := Aside0.mk (blk_below (g := gb195) (o := .cells #[.int .i64 t186, .int .i64 t187, .int .i64 t188, .int .i64 t189, .int .i64 t190, .int .i64 t191, .int .i64 t192, .int .i64 t193] 23 (0, 0)) (by (with_reducible repeat (first | refine blk_drewN ?_ _ | refine blk_drew ?_ | refine blk_alloc ?_ _)); exact BK195.out) hb); have n4_ := Aside0.mk (below_step (by repeat (first | (with_reducible first | exact HB.out | apply below_alloc | apply pw_below_drewN | apply below_drew1 | refine below_set ?_ GE181.out | refine below_set ?_ GE195.out) | exact HB.out)) hb); clear HO184; clear HO198; clear BK181; clear BK195; clear HB; have HO184 := n0_; have HO198 := n1_; have BK181 := n2_; have BK195 := n3_; have HB := n4_; clear n0_ n1_ n2_ n3_ n4_; (try clear hb); (try clear hb2); (try clear hk); (try clear hi)) | ((with_reducible refine gate_dst (N := 8) rfl ?_); (try (refine gate_guard (by rfl) ?_; dsimp only)); refine box_event ?hg (N := 8) ?hd (cs := #[.int .i64 0, .int .i64 0, .int .i64 0, .int .i64 0, .int .i64 0, .int .i64 0, .int .i64 0, .int .i64 0]) (t := 23) ?hr ?_; (case hd => rfl); (case hg => rfl); (case hr => first | (go_simp; done) | (go_simp; rfl)); intro gb209 hg w26 hbox hb; have n0_ := Aside0.mk (Kd.V_below (Kd.V_elderB (by (with_reducible repeat (first | apply Kd.V_alloc | apply Kd.V_drewN | apply Kd.V_drew)); exact HO184.out) gb209 (Nat.le_of_eq hg.symm)) hb); have n1_ := Aside0.mk (Kd.V_below (Kd.V_elderB (by (with_reducible repeat (first | apply Kd.V_alloc | apply Kd.V_drewN | apply Kd.V_drew)); exact HO198.out) gb209 (Nat.le_of_eq hg.symm)) hb); have n2_ := Aside0.mk (blk_below (g := gb181) (o := .cells #[.int .i64 19, .int .i64 2, .int .i64 0, .int .i64 0, .int .i64 0, .int .i64 9, .int .i64 0, .int .i64 (-1)] 23 (0, 0)) (by (with_reducible repeat (first | refine blk_drewN ?_ _ | refine blk_drew ?_ | refine blk_alloc ?_ _)); exact BK181.out) hb); have n3_ := Aside0.mk (blk_below (g := gb195) (o := .cells #[.int .i64 t186, .int .i64 t187, .int .i64 t188, .int .i64 t189, .int .i64 t190, .int .i64 t191, .int .i64 t192, .int .i64 t193] 23 (0, 0)) (by (with_reducible repeat (first | refine blk_drewN ?_ _ | refine blk_drew ?_ | refine blk_alloc ?_ _)); exact BK195.out) hb); have n4_ := Aside0.mk (below_step (by repeat (first | (with_reducible first | exact HB.out | apply below_alloc | apply pw_below_drewN | apply below_drew1 | refine below_set ?_ GE181.out | refine below_set ?_ GE195.out) | exact HB.out)) hb); have n5_ := Aside0.mk (hbox); have n6_ := Aside0.mk ((by rw [hg]; exact (below_size (by repeat (first | (with_reducible first | exact HB.out | apply below_alloc | apply pw_below_drewN | apply below_drew1 | refine below_set ?_ GE181.out | refine below_set ?_ GE195.out) | exact HB.out))) : w.heap.size ≤ gb209)); have n7_ := Aside0.mk ((by rw [hg]; exact (below_size (by repeat (first | (with_reducible first | exact HB.out | apply below_alloc | apply pw_below_drewN | apply below_drew1 | refine below_set ?_ GE181.out | refine below_set ?_ GE195.out) | exact HB.out))) : w.heap.size ≤ gb209)); have n8_ := Aside0.mk ((by rw [hg]; exact Nat.ne_of_lt (blk_lt (g := gb181) (o := .cells #[.int .i64 19, .int .i64 2, .int .i64 0, .int .i64 0, .int .i64 0, .int .i64 9, .int .i64 0, .int .i64 (-1)] 23 (0, 0)) (by (with_reducible repeat (first | refine blk_drewN ?_ _ | refine blk_drew ?_ | refine blk_alloc ?_ _)); exact BK181.out)) : gb181 ≠ gb209)); have n9_ := Aside0.mk ((by rw [hg]; exact Nat.ne_of_gt (blk_lt (g := gb181) (o := .cells #[.int .i64 19, .int .i64 2, .int .i64 0, .int .i64 0, .int .i64 0, .int .i64 9, .int .i64 0, .int .i64 (-1)] 23 (0, 0)) (by (with_reducible repeat (first | refine blk_drewN ?_ _ | refine blk_drew ?_ | refine blk_alloc ?_ _)); exact BK181.out)) : gb209 ≠ gb181)); have n10_ := Aside0.mk ((by rw [hg]; exact Nat.ne_of_lt (blk_lt (g := gb195) (o := .cells #[.int .i64 t186, .int .i64 t187, .int .i64 t188, .int .i64 t189, .int .i64 t190, .int .i64 t191, .int .i64 t192, .int .i64 t193] 23 (0, 0)) (by (with_reducible repeat (first | refine blk_drewN ?_ _ | refine blk_drew ?_ | refine blk_alloc ?_ _)); exact BK195.out)) : gb195 ≠ gb209)); have n11_ := Aside0.mk ((by rw [hg]; exact Nat.ne_of_gt (blk_lt (g := gb195) (o := .cells #[.int .i64 t186, .int .i64 t187, .int .i64 t188, .int .i64 t189, .int .i64 t190, .int .i64 t191, .int .i64 t192, .int .i64 t193] 23 (0, 0)) (by (with_reducible repeat (first | refine blk_drewN ?_ _ | refine blk_drew ?_ | refine blk_alloc ?_ _)); exact BK195.out)) : gb209 ≠ gb195)); clear HO184; clear HO198; clear BK181; clear BK195; clear HB; have HO184 := n0_; have HO198 := n1_; have BK181 := n2_; have BK195 := n3_; have HB := n4_; have BK209 := n5_; have GW209 := n6_; have GE209 := n7_; have NB181_209 := n8_; have NB209_181 := n9_; have NB195_209 := n10_; have NB209_195 := n11_; clear n0_ n1_ n2_ n3_ n4_ n5_ n6_ n7_ n8_ n9_ n10_ n11_; clear hb hbox hg; have hnb27 := NB209_181.out; have hnc27 := NB181_209.out; have hnb28 := NB209_195.out; have hnc28 := NB195_209.out; have hcz29_0 : w26.cell? ⟨gb209, 0, none⟩ = some (.int .i64 0) := (blk_cell BK209.out 0).trans rfl; have hcz29_1 : w26.cell? ⟨gb209, 1, none⟩ = some (.int .i64 0) := (blk_cell BK209.out 1).trans rfl; have hcz29_2 : w26.cell? ⟨gb209, 2, none⟩ = some (.int .i64 0) := (blk_cell BK209.out 2).trans rfl; have hcz29_3 : w26.cell? ⟨gb209, 3, none⟩ = some (.int .i64 0) := (blk_cell BK209.out 3).trans rfl; have hcz29_4 : w26.cell? ⟨gb209, 4, none⟩ = some (.int .i64 0) := (blk_cell BK209.out 4).trans rfl; have hcz29_5 : w26.cell? ⟨gb209, 5, none⟩ = some (.int .i64 0) := (blk_cell BK209.out 5).trans rfl; have hcz29_6 : w26.cell? ⟨gb209, 6, none⟩ = some (.int .i64 0) := (blk_cell BK209.out 6).trans rfl; have hcz29_7 : w26.cell? ⟨gb209, 7, none⟩ = some (.int .i64 0) := (blk_cell BK209.out 7).trans rfl; have hfz29_0 := blk_frozen BK209.out 0; have hfz29_1 := blk_frozen BK209.out 1; have hfz29_2 := blk_frozen BK209.out 2; have hfz29_3 := blk_frozen BK209.out 3; have hfz29_4 := blk_frozen BK209.out 4; have hfz29_5 := blk_frozen BK209.out 5; have hfz29_6 := blk_frozen BK209.out 6; have hfz29_7 := blk_frozen BK209.out 7; have hcz30_0 : w26.cell? ⟨gb195, 0, none⟩ = some (.int .i64 t186) := (blk_cell BK195.out 0).trans rfl; have hcz30_1 : w26.cell? ⟨gb195, 1, none⟩ = some (.int .i64 t187) := (blk_cell BK195.out 1).trans rfl; have hcz30_2 : w26.cell? ⟨gb195, 2, none⟩ = some (.int .i64 t188) := (blk_cell BK195.out 2).trans rfl; have hcz30_3 : w26.cell? ⟨gb195, 3, none⟩ = some (.int .i64 t189) := (blk_cell BK195.out 3).trans rfl; have hcz30_4 : w26.cell? ⟨gb195, 4, none⟩ = some (.int .i64 t190) := (blk_cell BK195.out 4).trans rfl; have hcz30_5 : w26.cell? ⟨gb195, 5, none⟩ = some (.int .i64 t191) := (blk_cell BK195.out 5).trans rfl; have hcz30_6 : w26.cell? ⟨gb195, 6, none⟩ = some (.int .i64 t192) := (blk_cell BK195.out 6).trans rfl; have hcz30_7 : w26.cell? ⟨gb195, 7, none⟩ = some (.int .i64 t193) := (blk_cell BK195.out 7).trans rfl; have hfz30_0 := blk_frozen BK195.out 0; have hfz30_1 := blk_frozen BK195.out 1; have hfz30_2 := blk_frozen BK195.out 2; have hfz30_3 := blk_frozen BK195.out 3; have hfz30_4 := blk_frozen BK195.out 4; have hfz30_5 := blk_frozen BK195.out 5; have hfz30_6 := blk_frozen BK195.out 6; have hfz30_7 := blk_frozen BK195.out 7; have hcz31_0 : w26.cell? ⟨gb181, 0, none⟩ = some (.int .i64 19) := (blk_cell BK181.out 0).trans rfl; have hcz31_1 : w26.cell? ⟨gb181, 1, none⟩ = some (.int .i64 2) := (blk_cell BK181.out 1).trans rfl; have hcz31_2 : w26.cell? ⟨gb181, 2, none⟩ = some (.int .i64 0) := (blk_cell BK181.out 2).trans rfl; have hcz31_3 : w26.cell? ⟨gb181, 3, none⟩ = some (.int .i64 0) := (blk_cell BK181.out 3).trans rfl; have hcz31_4 : w26.cell? ⟨gb181, 4, none⟩ = some (.int .i64 0) := (blk_cell BK181.out 4).trans rfl; have hcz31_5 : w26.cell? ⟨gb181, 5, none⟩ = some (.int .i64 9) := (blk_cell BK181.out 5).trans rfl; have hcz31_6 : w26.cell? ⟨gb181, 6, none⟩ = some (.int .i64 0) := (blk_cell BK181.out 6).trans rfl; have hcz31_7 : w26.cell? ⟨gb181, 7, none⟩ = some (.int .i64 (-1)) := (blk_cell BK181.out 7).trans rfl; have hfz31_0 := blk_frozen BK181.out 0; have hfz31_1 := blk_frozen BK181.out 1; have hfz31_2 := blk_frozen BK181.out 2; have hfz31_3 := blk_frozen BK181.out 3; have hfz31_4 := blk_frozen BK181.out 4; have hfz31_5 := blk_frozen BK181.out 5; have hfz31_6 := blk_frozen BK181.out 6; have hfz31_7 := blk_frozen BK181.out 7) | ((with_reducible refine gate_dst (N := 34) rfl ?_); (try (refine gate_guard (by rfl) ?_; dsimp only)); (try (refine gate_guard (by rfl) ?_; dsimp only)); refine Kd.string_event rfl (N := 34) rfl 25 9 5 _ rfl Ao19 t182.length co19 t182 rfl Try.underlying25 Try.underlying5 Try.underlying9 ?hC ?_; (case hC => refine (Kd.V_reads' (e := 5) (base := w.heap.size) (ok := fun k_ => ((k_ ≠ gb181 ∧ k_ ≠ gb195) ∧ k_ ≠ gb209)) (n := t182.length) (c := co19) ?_).2.2; exact (by (with_reducible repeat (first | apply Kd.V_alloc | apply Kd.V_drewN | apply Kd.V_drew)); exact (Kd.V_mono (Kd.V_far (p := ⟨gb209, 7, none⟩) (Kd.V_far (p := ⟨gb209, 6, none⟩) (Kd.V_far (p := ⟨gb209, 5, none⟩) (Kd.V_far (p := ⟨gb209, 4, none⟩) (Kd.V_far (p := ⟨gb209, 3, none⟩) (Kd.V_far (p := ⟨gb209, 2, none⟩) (Kd.V_far (p := ⟨gb209, 1, none⟩) (Kd.V_far (p := ⟨gb209, 0, none⟩) (Kd.V_mono HO184.out (fun k_ hk => (⟨hk, hk.2⟩ : _ ∧ k_ ≠ gb209))) (fun _ hk => hk.2) (.int .i64 t200)) (fun _ hk => hk.2) (.int .i64 t201)) (fun _ hk => hk.2) (.int .i64 t202)) (fun _ hk => hk.2) (.int .i64 t203)) (fun _ hk => hk.2) (.int .i64 t204)) (fun _ hk => hk.2) (.int .i64 t205)) (fun _ hk => hk.2) (.int .i64 t206)) (fun _ hk => hk.2) (.int .i64 t207)) (fun _ h_ => h_.1))))) | (go_at_call 12; (with_reducible refine (event_Right.calls k 19 2 0 0 0 9 0 (-1) true _ A9.out).mono ?_); rintro e w32 ⟨rfl, hb⟩; have n0_ := Aside0.mk (Kd.V_below (by (with_reducible repeat (first | apply Kd.V_alloc | apply Kd.V_drewN | apply Kd.V_drew)); exact (Kd.V_mono (Kd.V_far (p := ⟨gb209, 7, none⟩) (Kd.V_far (p := ⟨gb209, 6, none⟩) (Kd.V_far (p := ⟨gb209, 5, none⟩) (Kd.V_far (p := ⟨gb209, 4, none⟩) (Kd.V_far (p := ⟨gb209, 3, none⟩) (Kd.V_far (p := ⟨gb209, 2, none⟩) (Kd.V_far (p := ⟨gb209, 1, none⟩) (Kd.V_far (p := ⟨gb209, 0, none⟩) (Kd.V_mono HO184.out (fun k_ hk => (⟨hk, hk.2⟩ : _ ∧ k_ ≠ gb209))) (fun _ hk => hk.2) (.int .i64 t200)) (fun _ hk => hk.2) (.int .i64 t201)) (fun _ hk => hk.2) (.int .i64 t202)) (fun _ hk => hk.2) (.int .i64 t203)) (fun _ hk => hk.2) (.int .i64 t204)) (fun _ hk => hk.2) (.int .i64 t205)) (fun _ hk => hk.2) (.int .i64 t206)) (fun _ hk => hk.2) (.int .i64 t207)) (fun _ h_ => h_.1))) hb); have n1_ := Aside0.mk (Kd.V_below (by (with_reducible repeat (first | apply Kd.V_alloc | apply Kd.V_drewN | apply Kd.V_drew)); exact (Kd.V_mono (Kd.V_far (p := ⟨gb209, 7, none⟩) (Kd.V_far (p := ⟨gb209, 6, none⟩) (Kd.V_far (p := ⟨gb209, 5, none⟩) (Kd.V_far (p := ⟨gb209, 4, none⟩) (Kd.V_far (p := ⟨gb209, 3, none⟩) (Kd.V_far (p := ⟨gb209, 2, none⟩) (Kd.V_far (p := ⟨gb209, 1, none⟩) (Kd.V_far (p := ⟨gb209, 0, none⟩) (Kd.V_mono HO198.out (fun k_ hk => (⟨hk, hk.2⟩ : _ ∧ k_ ≠ gb209))) (fun _ hk => hk.2) (.int .i64 t200)) (fun _ hk => hk.2) (.int .i64 t201)) (fun _ hk => hk.2) (.int .i64 t202)) (fun _ hk => hk.2) (.int .i64 t203)) (fun _ hk => hk.2) (.int .i64 t204)) (fun _ hk => hk.2) (.int .i64 t205)) (fun _ hk => hk.2) (.int .i64 t206)) (fun _ hk => hk.2) (.int .i64 t207)) (fun _ h_ => h_.1))) hb); have n2_ := Aside0.mk (blk_below (g := gb181) (o := .cells #[.int .i64 19, .int .i64 2, .int .i64 0, .int .i64 0, .int .i64 0, .int .i64 9, .int .i64 0, .int .i64 (-1)] 23 (0, 0)) (by (with_reducible repeat (first | refine blk_drewN ?_ _ | refine blk_drew ?_ | refine blk_alloc ?_ _)); refine blk_far ?_ NB181_209.out _; (with_reducible repeat (first | refine blk_drewN ?_ _ | refine blk_drew ?_ | refine blk_alloc ?_ _)); refine blk_far ?_ NB181_209.out _; (with_reducible repeat (first | refine blk_drewN ?_ _ | refine blk_drew ?_ | refine blk_alloc ?_ _)); refine blk_far ?_ NB181_209.out _; (with_reducible repeat (first | refine blk_drewN ?_ _ | refine blk_drew ?_ | refine blk_alloc ?_ _)); refine blk_far ?_ NB181_209.out _; (with_reducible repeat (first | refine blk_drewN ?_ _ | refine blk_drew ?_ | refine blk_alloc ?_ _)); refine blk_far ?_ NB181_209.out _; (with_reducible repeat (first | refine blk_drewN ?_ _ | refine blk_drew ?_ | refine blk_alloc ?_ _)); refine blk_far ?_ NB181_209.out _; (with_reducible repeat (first | refine blk_drewN ?_ _ | refine blk_drew ?_ | refine blk_alloc ?_ _)); refine blk_far ?_ NB181_209.out _; (with_reducible repeat (first | refine blk_drewN ?_ _ | refine blk_drew ?_ | refine blk_alloc ?_ _)); refine blk_far ?_ NB181_209.out _; (with_reducible repeat (first | refine blk_drewN ?_ _ | refine blk_drew ?_ | refine blk_alloc ?_ _)); exact BK181.out) hb); have n3_ := Aside0.mk (blk_below (g := gb195) (o := .cells #[.int .i64 t186, .int .i64 t187, .int .i64 t188, .int .i64 t189, .int .i64 t190, .int .i64 t191, .int .i64 t192, .int .i64 t193] 23 (0, 0)) (by (with_reducible repeat (first | refine blk_drewN ?_ _ | refine blk_drew ?_ | refine blk_alloc ?_ _)); refine blk_far ?_ NB195_209.out _; (with_reducible repeat (first | refine blk_drewN ?_ _ | refine blk_drew ?_ | refine blk_alloc ?_ _)); refine blk_far ?_ NB195_209.out _; (with_reducible repeat (first | refine blk_drewN ?_ _ | refine blk_drew ?_ | refine blk_alloc ?_ _)); refine blk_far ?_ NB195_209.out _; (with_reducible repeat (first | refine blk_drewN ?_ _ | refine blk_drew ?_ | refine blk_alloc ?_ _)); refine blk_far ?_ NB195_209.out _; (with_reducible repeat (first | refine blk_drewN ?_ _ | refine blk_drew ?_ | refine blk_alloc ?_ _)); refine blk_far ?_ NB195_209.out _; (with_reducible repeat (first | refine blk_drewN ?_ _ | refine blk_drew ?_ | refine blk_alloc ?_ _)); refine blk_far ?_ NB195_209.out _; (with_reducible repeat (first | refine blk_drewN ?_ _ | refine blk_drew ?_ | refine blk_alloc ?_ _)); refine blk_far ?_ NB195_209.out _; (with_reducible repeat (first | refine blk_drewN ?_ _ | refine blk_drew ?_ | refine blk_alloc ?_ _)); refine blk_far ?_ NB195_209.out _; (with_reducible repeat (first | refine blk_drewN ?_ _ | refine blk_drew ?_ | refine blk_alloc ?_ _)); exact BK195.out) hb); have n4_ := Aside0.mk (blk_below (g := gb209) (o := .cells #[.int .i64 t200, .int .i64 t201, .int .i64 t202, .int .i64 t203, .int .i64 t204, .int .i64 t205, .int .i64 t206, .int .i64 t207] 23 (0, 0)) (by (with_reducible repeat (first | refine blk_drewN ?_ _ | refine blk_drew ?_ | refine blk_alloc ?_ _)); refine blk_put (cs := #[.int .i64 t200, .int .i64 t201, .int .i64 t202, .int .i64 t203, .int .i64 t204, .int .i64 t205, .int .i64 t206, .int .i64 0]) ?_ 7 _ rfl; (with_reducible repeat (first | refine blk_drewN ?_ _ | refine blk_drew ?_ | refine blk_alloc ?_ _)); refine blk_put (cs := #[.int .i64 t200, .int .i64 t201, .int .i64 t202, .int .i64 t203, .int .i64 t204, .int .i64 t205, .int .i64 0, .int .i64 0]) ?_ 6 _ rfl; (with_reducible repeat (first | refine blk_drewN ?_ _ | refine blk_drew ?_ | refine blk_alloc ?_ _)); refine blk_put (cs := #[.int .i64 t200, .int .i64 t201, .int .i64 t202, .int .i64 t203, .int .i64 t204, .int .i64 0, .int .i64 0, .int .i64 0]) ?_ 5 _ rfl; (with_reducible repeat (first | refine blk_drewN ?_ _ | refine blk_drew ?_ | refine blk_alloc ?_ _)); refine blk_put (cs := #[.int .i64 t200, .int .i64 t201, .int .i64 t202, .int .i64 t203, .int .i64 0, .int .i64 0, .int .i64 0, .int .i64 0]) ?_ 4 _ rfl; (with_reducible repeat (first | refine blk_drewN ?_ _ | refine blk_drew ?_ | refine blk_alloc ?_ _)); refine blk_put (cs := #[.int .i64 t200, .int .i64 t201, .int .i64 t202, .int .i64 0, .int .i64 0, .int .i64 0, .int .i64 0, .int .i64 0]) ?_ 3 _ rfl; (with_reducible repeat (first | refine blk_drewN ?_ _ | refine blk_drew ?_ | refine blk_alloc ?_ _)); refine blk_put (cs := #[.int .i64 t200, .int .i64 t201, .int .i64 0, .int .i64 0, .int .i64 0, .int .i64 0, .int .i64 0, .int .i64 0]) ?_ 2 _ rfl; (with_reducible repeat (first | refine blk_drewN ?_ _ | refine blk_drew ?_ | refine blk_alloc ?_ _)); refine blk_put (cs := #[.int .i64 t200, .int .i64 0, .int .i64 0, .int .i64 0, .int .i64 0, .int .i64 0, .int .i64 0, .int .i64 0]) ?_ 1 _ rfl; (with_reducible repeat (first | refine blk_drewN ?_ _ | refine blk_drew ?_ | refine blk_alloc ?_ _)); refine blk_put (cs := #[.int .i64 0, .int .i64 0, .int .i64 0, .int .i64 0, .int .i64 0, .int .i64 0, .int .i64 0, .int .i64 0]) ?_ 0 _ rfl; (with_reducible repeat (first | refine blk_drewN ?_ _ | refine blk_drew ?_ | refine blk_alloc ?_ _)); exact BK209.out) hb); have n5_ := Aside0.mk (below_step (by repeat (first | (with_reducible first | exact HB.out | apply below_alloc | apply pw_below_drewN | apply below_drew1 | refine below_set ?_ GE181.out | refine below_set ?_ GE195.out | refine below_set ?_ GE209.out) | exact HB.out)) hb); clear HO184; clear HO198; clear BK181; clear BK195; clear BK209; clear HB; have HO184 := n0_; have HO198 := n1_; have BK181 := n2_; have BK195 := n3_; have BK209 := n4_; have HB := n5_; clear n0_ n1_ n2_ n3_ n4_ n5_; (try clear hb); (try clear hb2); (try clear hk); (try clear hi)) | (go_at_call 14; (with_reducible refine (event_Fields.calls k 17 t211 _ A13.out).mono ?_); rintro e w' ⟨rfl, ⟨nd, rfl⟩⟩) | ((with_reducible refine gate_dst (N := 64) rfl ?_); (try (refine gate_guard (by rfl) ?_; dsimp only)); (try (refine gate_guard (by rfl) ?_; dsimp only)); refine Kd.V_const _ 5 rfl (N := 64) rfl 25 _ rfl ([97] : List Int) [.int .u8 97] rfl 1 rfl rfl Try.underlying25 Try.underlying5 (by simp) (Below.refl _ _) (Nat.le_refl _) ?_; intro v213 w33 ho34 hb hg_ hnew_; clear hg_ hnew_; (first | rw [← Ny212.out] at ho34 | (simp only [Int.reduceToNat] at ho34; rw [← Ny212.out] at ho34)); have n0_ := Aside0.mk (Kd.V_below (by (with_reducible repeat (first | apply Kd.V_alloc | apply Kd.V_drewN | apply Kd.V_drew)); exact HO184.out) hb); have n1_ := Aside0.mk (Kd.V_below (by (with_reducible repeat (first | apply Kd.V_alloc | apply Kd.V_drewN | apply Kd.V_drew)); exact HO198.out) hb); have n2_ := Aside0.mk (Kd.V_lower (Kd.V_mono (ok' := fun k_ => k_ ≠ gb181 ∧ k_ ≠ gb195 ∧ k_ ≠ gb209) ho34 (fun k_ hk_ => ⟨(Kd.freshB (g := gb181) (o := .cells #[.int .i64 19, .int .i64 2, .int .i64 0, .int .i64 0, .int .i64 0, .int .i64 9, .int .i64 0, .int .i64 (-1)] 23 (0, 0)) (by (with_reducible repeat (first | refine blk_drewN ?_ _ | refine blk_drew ?_ | refine blk_alloc ?_ _)); exact BK181.out) k_ hk_), (Kd.freshB (g := gb195) (o := .cells #[.int .i64 t186, .int .i64 t187, .int .i64 t188, .int .i64 t189, .int .i64 t190, .int .i64 t191, .int .i64 t192, .int .i64 t193] 23 (0, 0)) (by (with_reducible repeat (first | refine blk_drewN ?_ _ | refine blk_drew ?_ | refine blk_alloc ?_ _)); exact BK195.out) k_ hk_), (Kd.freshB (g := gb209) (o := .cells #[.int .i64 t200, .int .i64 t201, .int .i64 t202, .int .i64 t203, .int .i64 t204, .int .i64 t205, .int .i64 t206, .int .i64 t207] 23 (0, 0)) (by (with_reducible repeat (first | refine blk_drewN ?_ _ | refine blk_drew ?_ | refine blk_alloc ?_ _)); exact BK209.out) k_ hk_)⟩)) (below_size (by repeat (first | (with_reducible first | exact HB.out | apply below_alloc | apply pw_below_drewN | apply below_drew1 | refine below_set ?_ GE181.out | refine below_set ?_ GE195.out | refine below_set ?_ GE209.out) | exact HB.out)))); have n3_ := Aside0.mk (blk_below (g := gb181) (o := .cells #[.int .i64 19, .int .i64 2, .int .i64 0, .int .i64 0, .int .i64 0, .int .i64 9, .int .i64 0, .int .i64 (-1)] 23 (0, 0)) (by (with_reducible repeat (first | refine blk_drewN ?_ _ | refine blk_drew ?_ | refine blk_alloc ?_ _)); exact BK181.out) hb); have n4_ := Aside0.mk (blk_below (g := gb195) (o := .cells #[.int .i64 t186, .int .i64 t187, .int .i64 t188, .int .i64 t189, .int .i64 t190, .int .i64 t191, .int .i64 t192, .int .i64 t193] 23 (0, 0)) (by (with_reducible repeat (first | refine blk_drewN ?_ _ | refine blk_drew ?_ | refine blk_alloc ?_ _)); exact BK195.out) hb); have n5_ := Aside0.mk (blk_below (g := gb209) (o := .cells #[.int .i64 t200, .int .i64 t201, .int .i64 t202, .int .i64 t203, .int .i64 t204, .int .i64 t205, .int .i64 t206, .int .i64 t207] 23 (0, 0)) (by (with_reducible repeat (first | refine blk_drewN ?_ _ | refine blk_drew ?_ | refine blk_alloc ?_ _)); exact BK209.out) hb); have n6_ := Aside0.mk (below_step (by repeat (first | (with_reducible first | exact HB.out | apply below_alloc | apply pw_below_drewN | apply below_drew1 | refine below_set ?_ GE181.out | refine below_set ?_ GE195.out | refine below_set ?_ GE209.out) | exact HB.out)) hb); clear HO184; clear HO198; clear BK181; clear BK195; clear BK209; clear HB; have HO184 := n0_; have HO198 := n1_; have HO214 := n2_; have BK181 := n3_; have BK195 := n4_; have BK209 := n5_; have HB := n6_; clear n0_ n1_ n2_ n3_ n4_ n5_ n6_; clear hb ho34; obtain ⟨Ao35, co35, eo35⟩ := Kd.V_slice HO214.out; subst eo35) | (go_at_call 21; (with_reducible refine (event_Number.calls k _ _ y212 300 t215 _ ?side1 ?side2 A15.out).mono ?_); (case side1 => repeat (first | exact (Kd.V_reads' HO214.out).2.2 | (with_reducible refine Kd.C_alloc ?_ _) | (with_reducible refine Kd.C_drewN ?_ _) | (with_reducible refine Kd.C_drew ?_))); (case side2 => exact (Kd.V_reads' HO214.out).2.1); rintro e w36 ⟨v216, rfl, ho0, hb⟩; have n0_ := Aside0.mk (Kd.V_elder' (by (with_reducible repeat (first | apply Kd.V_alloc | apply Kd.V_drewN | apply Kd.V_drew)); exact HO184.out) (Kd.R_base ho0) hb); have n1_ := Aside0.mk (Kd.V_elder' (by (with_reducible repeat (first | apply Kd.V_alloc | apply Kd.V_drewN | apply Kd.V_drew)); exact HO198.out) (Kd.R_base ho0) hb); have n2_ := Aside0.mk (Kd.V_elder' (by (with_reducible repeat (first | apply Kd.V_alloc | apply Kd.V_drewN | apply Kd.V_drew)); exact HO214.out) (Kd.R_base ho0) hb); have n3_ := Aside0.mk (Kd.R_lower ho0 (below_size (by repeat (first | (with_reducible first | exact HB.out | apply below_alloc | apply pw_below_drewN | apply below_drew1 | refine below_set ?_ GE181.out | refine below_set ?_ GE195.out | refine below_set ?_ GE209.out) | exact HB.out)))); have n4_ := Aside0.mk (blk_below (g := gb181) (o := .cells #[.int .i64 19, .int .i64 2, .int .i64 0, .int .i64 0, .int .i64 0, .int .i64 9, .int .i64 0, .int .i64 (-1)] 23 (0, 0)) (by (with_reducible repeat (first | refine blk_drewN ?_ _ | refine blk_drew ?_ | refine blk_alloc ?_ _)); exact BK181.out) hb); have n5_ := Aside0.mk (blk_below (g := gb195) (o := .cells #[.int .i64 t186, .int .i64 t187, .int .i64 t188, .int .i64 t189, .int .i64 t190, .int .i64 t191, .int .i64 t192, .int .i64 t193] 23 (0, 0)) (by (with_reducible repeat (first | refine blk_drewN ?_ _ | refine blk_drew ?_ | refine blk_alloc ?_ _)); exact BK195.out) hb); have n6_ := Aside0.mk (blk_below (g := gb209) (o := .cells #[.int .i64 t200, .int .i64 t201, .int .i64 t202, .int .i64 t203, .int .i64 t204, .int .i64 t205, .int .i64 t206, .int .i64 t207] 23 (0, 0)) (by (with_reducible repeat (first | refine blk_drewN ?_ _ | refine blk_drew ?_ | refine blk_alloc ?_ _)); exact BK209.out) hb); have n7_ := Aside0.mk (below_step (by repeat (first | (with_reducible first | exact HB.out | apply below_alloc | apply pw_below_drewN | apply below_drew1 | refine below_set ?_ GE181.out | refine below_set ?_ GE195.out | refine below_set ?_ GE209.out) | exact HB.out)) hb); clear HO184; clear HO198; clear HO214; clear BK181; clear BK195; clear BK209; clear HB; have HO184 := n0_; have HO198 := n1_; have HO214 := n2_; have HO217 := n3_; have BK181 := n4_; have BK195 := n5_; have BK209 := n6_; have HB := n7_; clear n0_ n1_ n2_ n3_ n4_ n5_ n6_ n7_; (try clear hb); (try clear hb2); (try clear hk); (try clear hi); (try clear ho0); obtain ⟨Ao37, co37, eo37⟩ := Kd.R_slice HO217.out; subst eo37) | ((with_reducible refine gate_dst (N := 66) rfl ?_); (try (refine gate_guard (by rfl) ?_; dsimp only)); (try (refine gate_guard (by rfl) ?_; dsimp only)); refine Kd.string_event rfl (N := 66) rfl 25 9 5 _ rfl Ao37 t215.length co37 t215 rfl Try.underlying25 Try.underlying5 Try.underlying9 ?hC ?_; (case hC => repeat (first | exact (Kd.R_reads' HO217.out).2.2 | (with_reducible refine Kd.C_alloc ?_ _) | (with_reducible refine Kd.C_drewN ?_ _) | (with_reducible refine Kd.C_drew ?_)))))
                  go_ret
                  exact ⟨by first | rfl | (simp [errW_none, errW_some] <;> rfl) | (simp [*, errW_none, errW_some] <;> rfl), by repeat (first | (with_reducible first | exact HB.out | apply below_alloc | apply pw_below_drewN | apply below_drew1 | refine below_set ?_ GE181.out | refine below_set ?_ GE195.out | refine below_set ?_ GE209.out) | exact HB.out)⟩
                · rw [if_neg c14] at H
                  exact absurd H (by simp)
              · rw [if_neg c12] at H
                exact absurd H (by simp)
            · rw [if_neg c11] at H
              exact absurd H (by simp)
          · replace c10 := Bool.eq_false_iff.mpr c10
            subst c10
            have H1 : (none) = some r := by rw [if_neg (show ¬ (false = true) by decide)] at H; exact H
            clear H
            have H := H1
            clear H1
            exact absurd H (by simp)
        · rw [if_neg c8] at H
          exact absurd H (by simp)
      · rw [if_neg c7] at H
        exact absurd H (by simp)
    · rw [if_neg c6] at H
      exact absurd H (by simp)
  · rw [if_neg c5] at H
    exact absurd H (by simp)

/-! ### novationref4_Fields: function 15 -/
mutual
def novationref4_Fields.j0 : Nat → Int → Bool → Option (ByteArray)
  | 0, _, _ => none
  | k + 1, x3, x4 => if x4 = true then (some (⟨#[77]⟩ : ByteArray)) else (if x3 = 2 then (some (⟨#[77, 65, 83]⟩ : ByteArray)) else (if x3 = 3 then (novationref4_Fields.j1 k x3 (x3 == 3)) else (if x3 = 4 then (novationref4_Fields.j1 k x3 (x3 == 4)) else (novationref4_Fields.j1 k x3 (x3 == 6)))))
def novationref4_Fields.j1 : Nat → Int → Bool → Option (ByteArray)
  | 0, _, _ => none
  | k + 1, x3, x11 => if x11 = true then (some (⟨#[65, 81]⟩ : ByteArray)) else (if x3 = 5 then (novationref4_Fields.j2 k x3 (x3 == 5)) else (novationref4_Fields.j2 k x3 (x3 == 22)))
def novationref4_Fields.j2 : Nat → Int → Bool → Option (ByteArray)
  | 0, _, _ => none
  | k + 1, x3, x15 => if x15 = true then (some (⟨#[77, 81]⟩ : ByteArray)) else (if x3 = 7 then (some (⟨#[65, 73, 83, 81, 80]⟩ : ByteArray)) else (if x3 = 8 then (some (⟨#[65, 68]⟩ : ByteArray)) else (if x3 = 9 then (some (⟨#[73, 80]⟩ : ByteArray)) else (if x3 = 10 then (some (⟨#[81]⟩ : ByteArray)) else (if x3 = 14 then (some (⟨#[77, 65]⟩ : ByteArray)) else (if x3 = 17 then (some (⟨#[65, 68, 81, 80]⟩ : ByteArray)) else (if x3 = 19 then (some (⟨#[77, 68, 80]⟩ : ByteArray)) else (some (⟨#[]⟩ : ByteArray)))))))))
end
def novationref4_Fields.f (k : Nat) (a0 : Int) : Option (ByteArray) := if a0 = 1 then (novationref4_Fields.j0 k a0 (a0 == 1)) else (if a0 = 11 then (novationref4_Fields.j0 k a0 (a0 == 11)) else (if a0 = 12 then (novationref4_Fields.j0 k a0 (a0 == 12)) else (novationref4_Fields.j0 k a0 (a0 == 13))))
theorem novationref4_Fields.mono_l : ∀ k, (∀ y0 y1, LeO (novationref4_Fields.j0 k y0 y1) (novationref4_Fields.j0 (k + 1) y0 y1)) ∧ (∀ y0 y1, LeO (novationref4_Fields.j1 k y0 y1) (novationref4_Fields.j1 (k + 1) y0 y1)) ∧ (∀ y0 y1, LeO (novationref4_Fields.j2 k y0 y1) (novationref4_Fields.j2 (k + 1) y0 y1))
  | 0 => ⟨fun _ _ r h => by simp [novationref4_Fields.j0] at h, fun _ _ r h => by simp [novationref4_Fields.j1] at h, fun _ _ r h => by simp [novationref4_Fields.j2] at h⟩
  | k + 1 => by
    obtain ⟨ih0, ih1, ih2⟩ := novationref4_Fields.mono_l k
    refine ⟨?_, ?_, ?_⟩
    · intro y0 y1
      unfold novationref4_Fields.j0
      repeat' first
      | (with_reducible exact ih0 _ _)
      | (with_reducible exact ih1 _ _)
      | (with_reducible exact ih2 _ _)
      | (with_reducible exact LeO.refl _)
      | (with_reducible exact LeO.none _)
      | (with_reducible refine LeO.ite ?_ ?_)
      | (with_reducible refine LeO.bind ?_ (fun _ => ?_))
      | exact ih0 _ _
      | exact ih1 _ _
      | exact ih2 _ _
      | exact LeO.none _
      | refine LeO.ite ?_ ?_
      | refine LeO.bind ?_ (fun _ => ?_)
    · intro y0 y1
      unfold novationref4_Fields.j1
      repeat' first
      | (with_reducible exact ih0 _ _)
      | (with_reducible exact ih1 _ _)
      | (with_reducible exact ih2 _ _)
      | (with_reducible exact LeO.refl _)
      | (with_reducible exact LeO.none _)
      | (with_reducible refine LeO.ite ?_ ?_)
      | (with_reducible refine LeO.bind ?_ (fun _ => ?_))
      | exact ih0 _ _
      | exact ih1 _ _
      | exact ih2 _ _
      | exact LeO.none _
      | refine LeO.ite ?_ ?_
      | refine LeO.bind ?_ (fun _ => ?_)
    · intro y0 y1
      unfold novationref4_Fields.j2
      repeat' first
      | (with_reducible exact ih0 _ _)
      | (with_reducible exact ih1 _ _)
      | (with_reducible exact ih2 _ _)
      | (with_reducible exact LeO.refl _)
      | (with_reducible exact LeO.none _)
      | (with_reducible refine LeO.ite ?_ ?_)
      | (with_reducible refine LeO.bind ?_ (fun _ => ?_))
      | exact ih0 _ _
      | exact ih1 _ _
      | exact ih2 _ _
      | exact LeO.none _
      | refine LeO.ite ?_ ?_
      | refine LeO.bind ?_ (fun _ => ?_)
theorem novationref4_Fields.mono : ∀ a0 k, LeO (novationref4_Fields.f k a0) (novationref4_Fields.f (k + 1) a0) := by
  intro a0 k
  obtain ⟨ih0, ih1, ih2⟩ := novationref4_Fields.mono_l k
  unfold novationref4_Fields.f
  repeat' first
      | (with_reducible exact ih0 _ _)
      | (with_reducible exact ih1 _ _)
      | (with_reducible exact ih2 _ _)
      | (with_reducible exact LeO.refl _)
      | (with_reducible exact LeO.none _)
      | (with_reducible refine LeO.ite ?_ ?_)
      | (with_reducible refine LeO.bind ?_ (fun _ => ?_))
      | exact ih0 _ _
      | exact ih1 _ _
      | exact ih2 _ _
      | exact LeO.none _
      | refine LeO.ite ?_ ?_
      | refine LeO.bind ?_ (fun _ => ?_)
set_option maxHeartbeats 8000000 in
set_option maxRecDepth 100000 in
theorem novationref4_Fields.calls (k : Nat) (a0 : Int) (r : ByteArray) (w : World) (h : novationref4_Fields.f k a0 = some r) :
    Calls Try.prog 15 #[.int .i64 a0] w fun e w' => e = .returned (.string r) ∧ Drawn0 w w' := by
  have H : (if a0 = 1 then (novationref4_Fields.j0 k a0 (a0 == 1)) else (if a0 = 11 then (novationref4_Fields.j0 k a0 (a0 == 11)) else (if a0 = 12 then (novationref4_Fields.j0 k a0 (a0 == 12)) else (novationref4_Fields.j0 k a0 (a0 == 13))))) = some r := h
  clear h
  have HC2 := Aside0.mk H
  clear H
  go_enter Try.func15, Try.ntmps15
  go_upto_if 4 with (fail)
  go_cut [4] (fun v4 wc => ∃ (kq : Nat) (x4_1 : Bool), v4 = .bool x4_1 ∧ Aside0 (novationref4_Fields.j0 kq a0 x4_1 = some r) ∧ Aside0 (kq ≤ k) ∧ Drawn0 w wc)
  case first =>
    have H := HC2.out
    clear HC2
    by_cases c3 : a0 = 1
    · rw [if_pos c3] at H
      have c3b0 : (a0 == 1) = true := beq_iff_eq.mpr c3
      have c3b1 : (a0 != 1) = false := bne_eq_false_iff_eq.mpr c3
      clear c3
      (first | rw [c3b0] | (simp only [i64_w, i32_w]; rw [c3b0]) | skip)
      have H' := Aside0.mk H
      clear H
      go_wp2
      go_meet
      case rel => exact ⟨_, ((a0 == 1)), (by first | rfl | (simp; done) | (simp [*]; done)), H', ⟨by first | omega | exact Nat.le_refl _⟩, by repeat (first | exact Drawn0.refl _ | apply Drawn0.step)⟩
    · rw [if_neg c3] at H
      have c3b0 : (a0 == 1) = false := beq_eq_false_iff_ne.mpr c3
      have c3b1 : (a0 != 1) = true := bne_iff_ne.mpr c3
      (first | rw [c3b0] | (simp only [i64_w, i32_w]; rw [c3b0]) | skip)
      by_cases c4 : a0 = 11
      · rw [if_pos c4] at H
        have c4b0 : (a0 == 11) = true := beq_iff_eq.mpr c4
        have c4b1 : (a0 != 11) = false := bne_eq_false_iff_eq.mpr c4
        clear c4
        have H' := Aside0.mk H
        clear H
        go_wp2
        go_meet
        case rel => exact ⟨_, ((a0 == 11)), (by first | rfl | (simp; done) | (simp [*]; done)), H', ⟨by first | omega | exact Nat.le_refl _⟩, by repeat (first | exact Drawn0.refl _ | apply Drawn0.step)⟩
      · rw [if_neg c4] at H
        have c4b0 : (a0 == 11) = false := beq_eq_false_iff_ne.mpr c4
        have c4b1 : (a0 != 11) = true := bne_iff_ne.mpr c4
        by_cases c5 : a0 = 12
        · rw [if_pos c5] at H
          have c5b0 : (a0 == 12) = true := beq_iff_eq.mpr c5
          have c5b1 : (a0 != 12) = false := bne_eq_false_iff_eq.mpr c5
          clear c5
          have H' := Aside0.mk H
          clear H
          go_wp2
          go_meet
          case rel => exact ⟨_, ((a0 == 12)), (by first | rfl | (simp; done) | (simp [*]; done)), H', ⟨by first | omega | exact Nat.le_refl _⟩, by repeat (first | exact Drawn0.refl _ | apply Drawn0.step)⟩
        · rw [if_neg c5] at H
          have c5b0 : (a0 == 12) = false := beq_eq_false_iff_ne.mpr c5
          have c5b1 : (a0 != 12) = true := bne_iff_ne.mpr c5
          have H' := Aside0.mk H
          clear H
          go_wp2
          go_meet
          case rel => exact ⟨_, ((a0 == 13)), (by first | rfl | (simp; done) | (simp [*]; done)), H', ⟨by first | omega | exact Nat.le_refl _⟩, by repeat (first | exact Drawn0.refl _ | apply Drawn0.step)⟩
  case rest =>
    clear HC2
    try clear c1
    try clear p2
    try clear c3
    try clear c3b0
    try clear c3b1
    try clear c4
    try clear c4b0
    try clear c4b1
    try clear c5
    try clear c5b0
    try clear c5b1
    obtain ⟨kq, x4_1, rfl, HA, HJ1, ⟨mc1, rfl⟩⟩ := hcut
    cases kq with
    | zero => exact absurd HA.out (by simp [novationref4_Fields.j0])
    | succ kj1 =>
      have H := HA.out
      clear HA
      simp only [novationref4_Fields.j0] at H
      by_cases c6 : x4_1 = true
      · subst c6
        have H1 : (some (⟨#[77]⟩ : ByteArray)) = some r := by rw [if_pos rfl] at H; exact H
        clear H
        have H := H1
        clear H1
        obtain rfl := Option.some.inj H
        go_wp2
        go_ret
        exact ⟨by first | rfl | (simp; done) | (simp [*]; done), by repeat (first | exact Drawn0.refl _ | apply Drawn0.step)⟩
      · replace c6 := Bool.eq_false_iff.mpr c6
        subst c6
        have H1 : (if a0 = 2 then (some (⟨#[77, 65, 83]⟩ : ByteArray)) else (if a0 = 3 then (novationref4_Fields.j1 kj1 a0 (a0 == 3)) else (if a0 = 4 then (novationref4_Fields.j1 kj1 a0 (a0 == 4)) else (novationref4_Fields.j1 kj1 a0 (a0 == 6))))) = some r := by rw [if_neg (show ¬ (false = true) by decide)] at H; exact H
        clear H
        have H := H1
        clear H1
        by_cases c7 : a0 = 2
        · rw [if_pos c7] at H
          have c7b0 : (a0 == 2) = true := beq_iff_eq.mpr c7
          have c7b1 : (a0 != 2) = false := bne_eq_false_iff_eq.mpr c7
          clear c7
          obtain rfl := Option.some.inj H
          go_wp2
          go_ret
          exact ⟨by first | rfl | (simp; done) | (simp [*]; done), by repeat (first | exact Drawn0.refl _ | apply Drawn0.step)⟩
        · rw [if_neg c7] at H
          have c7b0 : (a0 == 2) = false := beq_eq_false_iff_ne.mpr c7
          have c7b1 : (a0 != 2) = true := bne_iff_ne.mpr c7
          have HC8 := Aside0.mk H
          clear H
          go_upto_if 11 with (fail)
          go_cut [11] (fun v11 wc => ∃ (kq : Nat) (x11_7 : Bool), v11 = .bool x11_7 ∧ Aside0 (novationref4_Fields.j1 kq a0 x11_7 = some r) ∧ Aside0 (kq ≤ kj1) ∧ Drawn0 w wc)
          case first =>
            have H := HC8.out
            clear HC8
            by_cases c9 : a0 = 3
            · rw [if_pos c9] at H
              have c9b0 : (a0 == 3) = true := beq_iff_eq.mpr c9
              have c9b1 : (a0 != 3) = false := bne_eq_false_iff_eq.mpr c9
              clear c9
              (first | rw [c9b0] | (simp only [i64_w, i32_w]; rw [c9b0]) | skip)
              have H' := Aside0.mk H
              clear H
              go_wp2
              go_meet
              case rel => exact ⟨_, ((a0 == 3)), (by first | rfl | (simp; done) | (simp [*]; done)), H', ⟨by have := HJ1.out; first | omega | exact Nat.le_refl _⟩, by repeat (first | exact Drawn0.refl _ | apply Drawn0.step)⟩
            · rw [if_neg c9] at H
              have c9b0 : (a0 == 3) = false := beq_eq_false_iff_ne.mpr c9
              have c9b1 : (a0 != 3) = true := bne_iff_ne.mpr c9
              (first | rw [c9b0] | (simp only [i64_w, i32_w]; rw [c9b0]) | skip)
              by_cases c10 : a0 = 4
              · rw [if_pos c10] at H
                have c10b0 : (a0 == 4) = true := beq_iff_eq.mpr c10
                have c10b1 : (a0 != 4) = false := bne_eq_false_iff_eq.mpr c10
                clear c10
                have H' := Aside0.mk H
                clear H
                go_wp2
                go_meet
                case rel => exact ⟨_, ((a0 == 4)), (by first | rfl | (simp; done) | (simp [*]; done)), H', ⟨by have := HJ1.out; first | omega | exact Nat.le_refl _⟩, by repeat (first | exact Drawn0.refl _ | apply Drawn0.step)⟩
              · rw [if_neg c10] at H
                have c10b0 : (a0 == 4) = false := beq_eq_false_iff_ne.mpr c10
                have c10b1 : (a0 != 4) = true := bne_iff_ne.mpr c10
                have H' := Aside0.mk H
                clear H
                go_wp2
                go_meet
                case rel => exact ⟨_, ((a0 == 6)), (by first | rfl | (simp; done) | (simp [*]; done)), H', ⟨by have := HJ1.out; first | omega | exact Nat.le_refl _⟩, by repeat (first | exact Drawn0.refl _ | apply Drawn0.step)⟩
          case rest =>
            clear HC8
            try clear c1
            try clear p2
            try clear c3
            try clear c3b0
            try clear c3b1
            try clear c4
            try clear c4b0
            try clear c4b1
            try clear c5
            try clear c5b0
            try clear c5b1
            try clear c6
            try clear c7
            try clear c7b0
            try clear c7b1
            try clear c9
            try clear c9b0
            try clear c9b1
            try clear c10
            try clear c10b0
            try clear c10b1
            try clear p2
            obtain ⟨kq, x11_7, rfl, HA, HJ7, ⟨mc7, rfl⟩⟩ := hcut
            cases kq with
            | zero => exact absurd HA.out (by simp [novationref4_Fields.j1])
            | succ kj7 =>
              have H := HA.out
              clear HA
              simp only [novationref4_Fields.j1] at H
              by_cases c11 : x11_7 = true
              · subst c11
                have H1 : (some (⟨#[65, 81]⟩ : ByteArray)) = some r := by rw [if_pos rfl] at H; exact H
                clear H
                have H := H1
                clear H1
                obtain rfl := Option.some.inj H
                go_wp2
                go_ret
                exact ⟨by first | rfl | (simp; done) | (simp [*]; done), by repeat (first | exact Drawn0.refl _ | apply Drawn0.step)⟩
              · replace c11 := Bool.eq_false_iff.mpr c11
                subst c11
                have H1 : (if a0 = 5 then (novationref4_Fields.j2 kj7 a0 (a0 == 5)) else (novationref4_Fields.j2 kj7 a0 (a0 == 22))) = some r := by rw [if_neg (show ¬ (false = true) by decide)] at H; exact H
                clear H
                have H := H1
                clear H1
                have HC12 := Aside0.mk H
                clear H
                go_upto_if 15 with (fail)
                go_cut [15] (fun v15 wc => ∃ (kq : Nat) (x15_11 : Bool), v15 = .bool x15_11 ∧ Aside0 (novationref4_Fields.j2 kq a0 x15_11 = some r) ∧ Aside0 (kq ≤ kj7) ∧ Drawn0 w wc)
                case first =>
                  have H := HC12.out
                  clear HC12
                  by_cases c13 : a0 = 5
                  · rw [if_pos c13] at H
                    have c13b0 : (a0 == 5) = true := beq_iff_eq.mpr c13
                    have c13b1 : (a0 != 5) = false := bne_eq_false_iff_eq.mpr c13
                    clear c13
                    (first | rw [c13b0] | (simp only [i64_w, i32_w]; rw [c13b0]) | skip)
                    have H' := Aside0.mk H
                    clear H
                    go_wp2
                    go_meet
                    case rel => exact ⟨_, ((a0 == 5)), (by first | rfl | (simp; done) | (simp [*]; done)), H', ⟨by have := HJ1.out; have := HJ7.out; first | omega | exact Nat.le_refl _⟩, by repeat (first | exact Drawn0.refl _ | apply Drawn0.step)⟩
                  · rw [if_neg c13] at H
                    have c13b0 : (a0 == 5) = false := beq_eq_false_iff_ne.mpr c13
                    have c13b1 : (a0 != 5) = true := bne_iff_ne.mpr c13
                    (first | rw [c13b0] | (simp only [i64_w, i32_w]; rw [c13b0]) | skip)
                    have H' := Aside0.mk H
                    clear H
                    go_wp2
                    go_meet
                    case rel => exact ⟨_, ((a0 == 22)), (by first | rfl | (simp; done) | (simp [*]; done)), H', ⟨by have := HJ1.out; have := HJ7.out; first | omega | exact Nat.le_refl _⟩, by repeat (first | exact Drawn0.refl _ | apply Drawn0.step)⟩
                case rest =>
                  clear HC12
                  try clear c1
                  try clear p2
                  try clear c3
                  try clear c3b0
                  try clear c3b1
                  try clear c4
                  try clear c4b0
                  try clear c4b1
                  try clear c5
                  try clear c5b0
                  try clear c5b1
                  try clear c6
                  try clear c7
                  try clear c7b0
                  try clear c7b1
                  try clear c9
                  try clear c9b0
                  try clear c9b1
                  try clear c10
                  try clear c10b0
                  try clear c10b1
                  try clear c11
                  try clear c13
                  try clear c13b0
                  try clear c13b1
                  try clear p2
                  obtain ⟨kq, x15_11, rfl, HA, HJ11, ⟨mc11, rfl⟩⟩ := hcut
                  cases kq with
                  | zero => exact absurd HA.out (by simp [novationref4_Fields.j2])
                  | succ kj11 =>
                    have H := HA.out
                    clear HA
                    simp only [novationref4_Fields.j2] at H
                    by_cases c14 : x15_11 = true
                    · subst c14
                      have H1 : (some (⟨#[77, 81]⟩ : ByteArray)) = some r := by rw [if_pos rfl] at H; exact H
                      clear H
                      have H := H1
                      clear H1
                      obtain rfl := Option.some.inj H
                      go_wp2
                      go_ret
                      exact ⟨by first | rfl | (simp; done) | (simp [*]; done), by repeat (first | exact Drawn0.refl _ | apply Drawn0.step)⟩
                    · replace c14 := Bool.eq_false_iff.mpr c14
                      subst c14
                      have H1 : (if a0 = 7 then (some (⟨#[65, 73, 83, 81, 80]⟩ : ByteArray)) else (if a0 = 8 then (some (⟨#[65, 68]⟩ : ByteArray)) else (if a0 = 9 then (some (⟨#[73, 80]⟩ : ByteArray)) else (if a0 = 10 then (some (⟨#[81]⟩ : ByteArray)) else (if a0 = 14 then (some (⟨#[77, 65]⟩ : ByteArray)) else (if a0 = 17 then (some (⟨#[65, 68, 81, 80]⟩ : ByteArray)) else (if a0 = 19 then (some (⟨#[77, 68, 80]⟩ : ByteArray)) else (some (⟨#[]⟩ : ByteArray))))))))) = some r := by rw [if_neg (show ¬ (false = true) by decide)] at H; exact H
                      clear H
                      have H := H1
                      clear H1
                      by_cases c15 : a0 = 7
                      · rw [if_pos c15] at H
                        have c15b0 : (a0 == 7) = true := beq_iff_eq.mpr c15
                        have c15b1 : (a0 != 7) = false := bne_eq_false_iff_eq.mpr c15
                        clear c15
                        obtain rfl := Option.some.inj H
                        go_wp2
                        go_ret
                        exact ⟨by first | rfl | (simp; done) | (simp [*]; done), by repeat (first | exact Drawn0.refl _ | apply Drawn0.step)⟩
                      · rw [if_neg c15] at H
                        have c15b0 : (a0 == 7) = false := beq_eq_false_iff_ne.mpr c15
                        have c15b1 : (a0 != 7) = true := bne_iff_ne.mpr c15
                        by_cases c16 : a0 = 8
                        · rw [if_pos c16] at H
                          have c16b0 : (a0 == 8) = true := beq_iff_eq.mpr c16
                          have c16b1 : (a0 != 8) = false := bne_eq_false_iff_eq.mpr c16
                          clear c16
                          obtain rfl := Option.some.inj H
                          go_wp2
                          go_ret
                          exact ⟨by first | rfl | (simp; done) | (simp [*]; done), by repeat (first | exact Drawn0.refl _ | apply Drawn0.step)⟩
                        · rw [if_neg c16] at H
                          have c16b0 : (a0 == 8) = false := beq_eq_false_iff_ne.mpr c16
                          have c16b1 : (a0 != 8) = true := bne_iff_ne.mpr c16
                          by_cases c17 : a0 = 9
                          · rw [if_pos c17] at H
                            have c17b0 : (a0 == 9) = true := beq_iff_eq.mpr c17
                            have c17b1 : (a0 != 9) = false := bne_eq_false_iff_eq.mpr c17
                            clear c17
                            obtain rfl := Option.some.inj H
                            go_wp2
                            go_ret
                            exact ⟨by first | rfl | (simp; done) | (simp [*]; done), by repeat (first | exact Drawn0.refl _ | apply Drawn0.step)⟩
                          · rw [if_neg c17] at H
                            have c17b0 : (a0 == 9) = false := beq_eq_false_iff_ne.mpr c17
                            have c17b1 : (a0 != 9) = true := bne_iff_ne.mpr c17
                            by_cases c18 : a0 = 10
                            · rw [if_pos c18] at H
                              have c18b0 : (a0 == 10) = true := beq_iff_eq.mpr c18
                              have c18b1 : (a0 != 10) = false := bne_eq_false_iff_eq.mpr c18
                              clear c18
                              obtain rfl := Option.some.inj H
                              go_wp2
                              go_ret
                              exact ⟨by first | rfl | (simp; done) | (simp [*]; done), by repeat (first | exact Drawn0.refl _ | apply Drawn0.step)⟩
                            · rw [if_neg c18] at H
                              have c18b0 : (a0 == 10) = false := beq_eq_false_iff_ne.mpr c18
                              have c18b1 : (a0 != 10) = true := bne_iff_ne.mpr c18
                              by_cases c19 : a0 = 14
                              · rw [if_pos c19] at H
                                have c19b0 : (a0 == 14) = true := beq_iff_eq.mpr c19
                                have c19b1 : (a0 != 14) = false := bne_eq_false_iff_eq.mpr c19
                                clear c19
                                obtain rfl := Option.some.inj H
                                go_wp2
                                go_ret
                                exact ⟨by first | rfl | (simp; done) | (simp [*]; done), by repeat (first | exact Drawn0.refl _ | apply Drawn0.step)⟩
                              · rw [if_neg c19] at H
                                have c19b0 : (a0 == 14) = false := beq_eq_false_iff_ne.mpr c19
                                have c19b1 : (a0 != 14) = true := bne_iff_ne.mpr c19
                                by_cases c20 : a0 = 17
                                · rw [if_pos c20] at H
                                  have c20b0 : (a0 == 17) = true := beq_iff_eq.mpr c20
                                  have c20b1 : (a0 != 17) = false := bne_eq_false_iff_eq.mpr c20
                                  clear c20
                                  obtain rfl := Option.some.inj H
                                  go_wp2
                                  go_ret
                                  exact ⟨by first | rfl | (simp; done) | (simp [*]; done), by repeat (first | exact Drawn0.refl _ | apply Drawn0.step)⟩
                                · rw [if_neg c20] at H
                                  have c20b0 : (a0 == 17) = false := beq_eq_false_iff_ne.mpr c20
                                  have c20b1 : (a0 != 17) = true := bne_iff_ne.mpr c20
                                  by_cases c21 : a0 = 19
                                  · rw [if_pos c21] at H
                                    have c21b0 : (a0 == 19) = true := beq_iff_eq.mpr c21
                                    have c21b1 : (a0 != 19) = false := bne_eq_false_iff_eq.mpr c21
                                    clear c21
                                    obtain rfl := Option.some.inj H
                                    go_wp2
                                    go_ret
                                    exact ⟨by first | rfl | (simp; done) | (simp [*]; done), by repeat (first | exact Drawn0.refl _ | apply Drawn0.step)⟩
                                  · rw [if_neg c21] at H
                                    have c21b0 : (a0 == 19) = false := beq_eq_false_iff_ne.mpr c21
                                    have c21b1 : (a0 != 19) = true := bne_iff_ne.mpr c21
                                    obtain rfl := Option.some.inj H
                                    go_wp2
                                    go_ret
                                    exact ⟨by first | rfl | (simp; done) | (simp [*]; done), by repeat (first | exact Drawn0.refl _ | apply Drawn0.step)⟩

/-! ### novationref4_value: function 25 -/
def novationref4_value.f (a0_0 : Int) (a0_1 : Int) (a0_2 : Int) (a0_3 : Int) (a0_4 : Int) (a0_5 : Int) (a0_6 : Int) (a0_7 : Int) (a1 : Int) : Option (Int) := if a1 = 77 then (some a0_1) else (if a1 = 65 then (some a0_2) else (if a1 = 73 then (some a0_3) else (if a1 = 83 then (some a0_4) else (if a1 = 68 then (some a0_5) else (if a1 = 81 then (some a0_6) else (some a0_7))))))
set_option maxHeartbeats 8000000 in
set_option maxRecDepth 100000 in
theorem novationref4_value.calls (a0_0 : Int) (a0_1 : Int) (a0_2 : Int) (a0_3 : Int) (a0_4 : Int) (a0_5 : Int) (a0_6 : Int) (a0_7 : Int) (a1 : Int) (r : Int) (w : World) (h : novationref4_value.f a0_0 a0_1 a0_2 a0_3 a0_4 a0_5 a0_6 a0_7 a1 = some r) :
    Calls Try.prog 25 #[.agg #[.int .i64 a0_0, .int .i64 a0_1, .int .i64 a0_2, .int .i64 a0_3, .int .i64 a0_4, .int .i64 a0_5, .int .i64 a0_6, .int .i64 a0_7], .int .u8 a1] w fun e w' => e = .returned (.int .i64 r) ∧ Below w.heap.size w w' := by
  have hu23 := Try.underlying23
  have HB := Aside0.mk (Below.refl w.heap.size w)
  have H : (if a1 = 77 then (some a0_1) else (if a1 = 65 then (some a0_2) else (if a1 = 73 then (some a0_3) else (if a1 = 83 then (some a0_4) else (if a1 = 68 then (some a0_5) else (if a1 = 81 then (some a0_6) else (some a0_7))))))) = some r := h
  clear h
  by_cases c3 : a1 = 77
  · rw [if_pos c3] at H
    have c3b0 : (a1 == 77) = true := beq_iff_eq.mpr c3
    have c3b1 : (a1 != 77) = false := bne_eq_false_iff_eq.mpr c3
    clear c3
    obtain rfl := Option.some.inj H
    go_enter Try.func25, Try.ntmps25
    go_wp2_with (first | ((with_reducible refine gate_dst (N := 2) rfl ?_); refine box_event ?hg (N := 2) ?hd (cs := #[.int .i64 a0_0, .int .i64 a0_1, .int .i64 a0_2, .int .i64 a0_3, .int .i64 a0_4, .int .i64 a0_5, .int .i64 a0_6, .int .i64 a0_7]) (t := 23) ?hr ?_; (case hd => rfl); (case hg => rfl); (case hr => first | (go_simp; done) | (go_simp; rfl)); intro gb218 hg w4 hbox hb; have n0_ := Aside0.mk (below_step (by repeat (first | (with_reducible first | exact HB.out | apply below_alloc | apply pw_below_drewN | apply below_drew1) | exact HB.out)) hb); have n1_ := Aside0.mk (hbox); have n2_ := Aside0.mk ((by rw [hg]; exact (below_size (by repeat (first | (with_reducible first | exact HB.out | apply below_alloc | apply pw_below_drewN | apply below_drew1) | exact HB.out))) : w.heap.size ≤ gb218)); have n3_ := Aside0.mk ((by rw [hg]; exact (below_size (by repeat (first | (with_reducible first | exact HB.out | apply below_alloc | apply pw_below_drewN | apply below_drew1) | exact HB.out))) : w.heap.size ≤ gb218)); clear HB; have HB := n0_; have BK218 := n1_; have GW218 := n2_; have GE218 := n3_; clear n0_ n1_ n2_ n3_; clear hb hbox hg; have hcz5_0 : w4.cell? ⟨gb218, 0, none⟩ = some (.int .i64 a0_0) := (blk_cell BK218.out 0).trans rfl; have hcz5_1 : w4.cell? ⟨gb218, 1, none⟩ = some (.int .i64 a0_1) := (blk_cell BK218.out 1).trans rfl; have hcz5_2 : w4.cell? ⟨gb218, 2, none⟩ = some (.int .i64 a0_2) := (blk_cell BK218.out 2).trans rfl; have hcz5_3 : w4.cell? ⟨gb218, 3, none⟩ = some (.int .i64 a0_3) := (blk_cell BK218.out 3).trans rfl; have hcz5_4 : w4.cell? ⟨gb218, 4, none⟩ = some (.int .i64 a0_4) := (blk_cell BK218.out 4).trans rfl; have hcz5_5 : w4.cell? ⟨gb218, 5, none⟩ = some (.int .i64 a0_5) := (blk_cell BK218.out 5).trans rfl; have hcz5_6 : w4.cell? ⟨gb218, 6, none⟩ = some (.int .i64 a0_6) := (blk_cell BK218.out 6).trans rfl; have hcz5_7 : w4.cell? ⟨gb218, 7, none⟩ = some (.int .i64 a0_7) := (blk_cell BK218.out 7).trans rfl; have hfz5_0 := blk_frozen BK218.out 0; have hfz5_1 := blk_frozen BK218.out 1; have hfz5_2 := blk_frozen BK218.out 2; have hfz5_3 := blk_frozen BK218.out 3; have hfz5_4 := blk_frozen BK218.out 4; have hfz5_5 := blk_frozen BK218.out 5; have hfz5_6 := blk_frozen BK218.out 6; have hfz5_7 := blk_frozen BK218.out 7))
    go_ret
    exact ⟨by first | rfl | (simp [errW_none, errW_some] <;> rfl) | (simp [*, errW_none, errW_some] <;> rfl), by repeat (first | (with_reducible first | exact HB.out | apply below_alloc | apply pw_below_drewN | apply below_drew1 | refine below_set ?_ GE218.out) | exact HB.out)⟩
  · rw [if_neg c3] at H
    have c3b0 : (a1 == 77) = false := beq_eq_false_iff_ne.mpr c3
    have c3b1 : (a1 != 77) = true := bne_iff_ne.mpr c3
    by_cases c6 : a1 = 65
    · rw [if_pos c6] at H
      have c6b0 : (a1 == 65) = true := beq_iff_eq.mpr c6
      have c6b1 : (a1 != 65) = false := bne_eq_false_iff_eq.mpr c6
      clear c6
      obtain rfl := Option.some.inj H
      go_enter Try.func25, Try.ntmps25
      go_wp2_with (first | ((with_reducible refine gate_dst (N := 2) rfl ?_); refine box_event ?hg (N := 2) ?hd (cs := #[.int .i64 a0_0, .int .i64 a0_1, .int .i64 a0_2, .int .i64 a0_3, .int .i64 a0_4, .int .i64 a0_5, .int .i64 a0_6, .int .i64 a0_7]) (t := 23) ?hr ?_; (case hd => rfl); (case hg => rfl); (case hr => first | (go_simp; done) | (go_simp; rfl)); intro gb218 hg w7 hbox hb; have n0_ := Aside0.mk (below_step (by repeat (first | (with_reducible first | exact HB.out | apply below_alloc | apply pw_below_drewN | apply below_drew1) | exact HB.out)) hb); have n1_ := Aside0.mk (hbox); have n2_ := Aside0.mk ((by rw [hg]; exact (below_size (by repeat (first | (with_reducible first | exact HB.out | apply below_alloc | apply pw_below_drewN | apply below_drew1) | exact HB.out))) : w.heap.size ≤ gb218)); have n3_ := Aside0.mk ((by rw [hg]; exact (below_size (by repeat (first | (with_reducible first | exact HB.out | apply below_alloc | apply pw_below_drewN | apply below_drew1) | exact HB.out))) : w.heap.size ≤ gb218)); clear HB; have HB := n0_; have BK218 := n1_; have GW218 := n2_; have GE218 := n3_; clear n0_ n1_ n2_ n3_; clear hb hbox hg; have hcz8_0 : w7.cell? ⟨gb218, 0, none⟩ = some (.int .i64 a0_0) := (blk_cell BK218.out 0).trans rfl; have hcz8_1 : w7.cell? ⟨gb218, 1, none⟩ = some (.int .i64 a0_1) := (blk_cell BK218.out 1).trans rfl; have hcz8_2 : w7.cell? ⟨gb218, 2, none⟩ = some (.int .i64 a0_2) := (blk_cell BK218.out 2).trans rfl; have hcz8_3 : w7.cell? ⟨gb218, 3, none⟩ = some (.int .i64 a0_3) := (blk_cell BK218.out 3).trans rfl; have hcz8_4 : w7.cell? ⟨gb218, 4, none⟩ = some (.int .i64 a0_4) := (blk_cell BK218.out 4).trans rfl; have hcz8_5 : w7.cell? ⟨gb218, 5, none⟩ = some (.int .i64 a0_5) := (blk_cell BK218.out 5).trans rfl; have hcz8_6 : w7.cell? ⟨gb218, 6, none⟩ = some (.int .i64 a0_6) := (blk_cell BK218.out 6).trans rfl; have hcz8_7 : w7.cell? ⟨gb218, 7, none⟩ = some (.int .i64 a0_7) := (blk_cell BK218.out 7).trans rfl; have hfz8_0 := blk_frozen BK218.out 0; have hfz8_1 := blk_frozen BK218.out 1; have hfz8_2 := blk_frozen BK218.out 2; have hfz8_3 := blk_frozen BK218.out 3; have hfz8_4 := blk_frozen BK218.out 4; have hfz8_5 := blk_frozen BK218.out 5; have hfz8_6 := blk_frozen BK218.out 6; have hfz8_7 := blk_frozen BK218.out 7))
      go_ret
      exact ⟨by first | rfl | (simp [errW_none, errW_some] <;> rfl) | (simp [*, errW_none, errW_some] <;> rfl), by repeat (first | (with_reducible first | exact HB.out | apply below_alloc | apply pw_below_drewN | apply below_drew1 | refine below_set ?_ GE218.out) | exact HB.out)⟩
    · rw [if_neg c6] at H
      have c6b0 : (a1 == 65) = false := beq_eq_false_iff_ne.mpr c6
      have c6b1 : (a1 != 65) = true := bne_iff_ne.mpr c6
      by_cases c9 : a1 = 73
      · rw [if_pos c9] at H
        have c9b0 : (a1 == 73) = true := beq_iff_eq.mpr c9
        have c9b1 : (a1 != 73) = false := bne_eq_false_iff_eq.mpr c9
        clear c9
        obtain rfl := Option.some.inj H
        go_enter Try.func25, Try.ntmps25
        go_wp2_with (first | ((with_reducible refine gate_dst (N := 2) rfl ?_); refine box_event ?hg (N := 2) ?hd (cs := #[.int .i64 a0_0, .int .i64 a0_1, .int .i64 a0_2, .int .i64 a0_3, .int .i64 a0_4, .int .i64 a0_5, .int .i64 a0_6, .int .i64 a0_7]) (t := 23) ?hr ?_; (case hd => rfl); (case hg => rfl); (case hr => first | (go_simp; done) | (go_simp; rfl)); intro gb218 hg w10 hbox hb; have n0_ := Aside0.mk (below_step (by repeat (first | (with_reducible first | exact HB.out | apply below_alloc | apply pw_below_drewN | apply below_drew1) | exact HB.out)) hb); have n1_ := Aside0.mk (hbox); have n2_ := Aside0.mk ((by rw [hg]; exact (below_size (by repeat (first | (with_reducible first | exact HB.out | apply below_alloc | apply pw_below_drewN | apply below_drew1) | exact HB.out))) : w.heap.size ≤ gb218)); have n3_ := Aside0.mk ((by rw [hg]; exact (below_size (by repeat (first | (with_reducible first | exact HB.out | apply below_alloc | apply pw_below_drewN | apply below_drew1) | exact HB.out))) : w.heap.size ≤ gb218)); clear HB; have HB := n0_; have BK218 := n1_; have GW218 := n2_; have GE218 := n3_; clear n0_ n1_ n2_ n3_; clear hb hbox hg; have hcz11_0 : w10.cell? ⟨gb218, 0, none⟩ = some (.int .i64 a0_0) := (blk_cell BK218.out 0).trans rfl; have hcz11_1 : w10.cell? ⟨gb218, 1, none⟩ = some (.int .i64 a0_1) := (blk_cell BK218.out 1).trans rfl; have hcz11_2 : w10.cell? ⟨gb218, 2, none⟩ = some (.int .i64 a0_2) := (blk_cell BK218.out 2).trans rfl; have hcz11_3 : w10.cell? ⟨gb218, 3, none⟩ = some (.int .i64 a0_3) := (blk_cell BK218.out 3).trans rfl; have hcz11_4 : w10.cell? ⟨gb218, 4, none⟩ = some (.int .i64 a0_4) := (blk_cell BK218.out 4).trans rfl; have hcz11_5 : w10.cell? ⟨gb218, 5, none⟩ = some (.int .i64 a0_5) := (blk_cell BK218.out 5).trans rfl; have hcz11_6 : w10.cell? ⟨gb218, 6, none⟩ = some (.int .i64 a0_6) := (blk_cell BK218.out 6).trans rfl; have hcz11_7 : w10.cell? ⟨gb218, 7, none⟩ = some (.int .i64 a0_7) := (blk_cell BK218.out 7).trans rfl; have hfz11_0 := blk_frozen BK218.out 0; have hfz11_1 := blk_frozen BK218.out 1; have hfz11_2 := blk_frozen BK218.out 2; have hfz11_3 := blk_frozen BK218.out 3; have hfz11_4 := blk_frozen BK218.out 4; have hfz11_5 := blk_frozen BK218.out 5; have hfz11_6 := blk_frozen BK218.out 6; have hfz11_7 := blk_frozen BK218.out 7))
        go_ret
        exact ⟨by first | rfl | (simp [errW_none, errW_some] <;> rfl) | (simp [*, errW_none, errW_some] <;> rfl), by repeat (first | (with_reducible first | exact HB.out | apply below_alloc | apply pw_below_drewN | apply below_drew1 | refine below_set ?_ GE218.out) | exact HB.out)⟩
      · rw [if_neg c9] at H
        have c9b0 : (a1 == 73) = false := beq_eq_false_iff_ne.mpr c9
        have c9b1 : (a1 != 73) = true := bne_iff_ne.mpr c9
        by_cases c12 : a1 = 83
        · rw [if_pos c12] at H
          have c12b0 : (a1 == 83) = true := beq_iff_eq.mpr c12
          have c12b1 : (a1 != 83) = false := bne_eq_false_iff_eq.mpr c12
          clear c12
          obtain rfl := Option.some.inj H
          go_enter Try.func25, Try.ntmps25
          go_wp2_with (first | ((with_reducible refine gate_dst (N := 2) rfl ?_); refine box_event ?hg (N := 2) ?hd (cs := #[.int .i64 a0_0, .int .i64 a0_1, .int .i64 a0_2, .int .i64 a0_3, .int .i64 a0_4, .int .i64 a0_5, .int .i64 a0_6, .int .i64 a0_7]) (t := 23) ?hr ?_; (case hd => rfl); (case hg => rfl); (case hr => first | (go_simp; done) | (go_simp; rfl)); intro gb218 hg w13 hbox hb; have n0_ := Aside0.mk (below_step (by repeat (first | (with_reducible first | exact HB.out | apply below_alloc | apply pw_below_drewN | apply below_drew1) | exact HB.out)) hb); have n1_ := Aside0.mk (hbox); have n2_ := Aside0.mk ((by rw [hg]; exact (below_size (by repeat (first | (with_reducible first | exact HB.out | apply below_alloc | apply pw_below_drewN | apply below_drew1) | exact HB.out))) : w.heap.size ≤ gb218)); have n3_ := Aside0.mk ((by rw [hg]; exact (below_size (by repeat (first | (with_reducible first | exact HB.out | apply below_alloc | apply pw_below_drewN | apply below_drew1) | exact HB.out))) : w.heap.size ≤ gb218)); clear HB; have HB := n0_; have BK218 := n1_; have GW218 := n2_; have GE218 := n3_; clear n0_ n1_ n2_ n3_; clear hb hbox hg; have hcz14_0 : w13.cell? ⟨gb218, 0, none⟩ = some (.int .i64 a0_0) := (blk_cell BK218.out 0).trans rfl; have hcz14_1 : w13.cell? ⟨gb218, 1, none⟩ = some (.int .i64 a0_1) := (blk_cell BK218.out 1).trans rfl; have hcz14_2 : w13.cell? ⟨gb218, 2, none⟩ = some (.int .i64 a0_2) := (blk_cell BK218.out 2).trans rfl; have hcz14_3 : w13.cell? ⟨gb218, 3, none⟩ = some (.int .i64 a0_3) := (blk_cell BK218.out 3).trans rfl; have hcz14_4 : w13.cell? ⟨gb218, 4, none⟩ = some (.int .i64 a0_4) := (blk_cell BK218.out 4).trans rfl; have hcz14_5 : w13.cell? ⟨gb218, 5, none⟩ = some (.int .i64 a0_5) := (blk_cell BK218.out 5).trans rfl; have hcz14_6 : w13.cell? ⟨gb218, 6, none⟩ = some (.int .i64 a0_6) := (blk_cell BK218.out 6).trans rfl; have hcz14_7 : w13.cell? ⟨gb218, 7, none⟩ = some (.int .i64 a0_7) := (blk_cell BK218.out 7).trans rfl; have hfz14_0 := blk_frozen BK218.out 0; have hfz14_1 := blk_frozen BK218.out 1; have hfz14_2 := blk_frozen BK218.out 2; have hfz14_3 := blk_frozen BK218.out 3; have hfz14_4 := blk_frozen BK218.out 4; have hfz14_5 := blk_frozen BK218.out 5; have hfz14_6 := blk_frozen BK218.out 6; have hfz14_7 := blk_frozen BK218.out 7))
          go_ret
          exact ⟨by first | rfl | (simp [errW_none, errW_some] <;> rfl) | (simp [*, errW_none, errW_some] <;> rfl), by repeat (first | (with_reducible first | exact HB.out | apply below_alloc | apply pw_below_drewN | apply below_drew1 | refine below_set ?_ GE218.out) | exact HB.out)⟩
        · rw [if_neg c12] at H
          have c12b0 : (a1 == 83) = false := beq_eq_false_iff_ne.mpr c12
          have c12b1 : (a1 != 83) = true := bne_iff_ne.mpr c12
          by_cases c15 : a1 = 68
          · rw [if_pos c15] at H
            have c15b0 : (a1 == 68) = true := beq_iff_eq.mpr c15
            have c15b1 : (a1 != 68) = false := bne_eq_false_iff_eq.mpr c15
            clear c15
            obtain rfl := Option.some.inj H
            go_enter Try.func25, Try.ntmps25
            go_wp2_with (first | ((with_reducible refine gate_dst (N := 2) rfl ?_); refine box_event ?hg (N := 2) ?hd (cs := #[.int .i64 a0_0, .int .i64 a0_1, .int .i64 a0_2, .int .i64 a0_3, .int .i64 a0_4, .int .i64 a0_5, .int .i64 a0_6, .int .i64 a0_7]) (t := 23) ?hr ?_; (case hd => rfl); (case hg => rfl); (case hr => first | (go_simp; done) | (go_simp; rfl)); intro gb218 hg w16 hbox hb; have n0_ := Aside0.mk (below_step (by repeat (first | (with_reducible first | exact HB.out | apply below_alloc | apply pw_below_drewN | apply below_drew1) | exact HB.out)) hb); have n1_ := Aside0.mk (hbox); have n2_ := Aside0.mk ((by rw [hg]; exact (below_size (by repeat (first | (with_reducible first | exact HB.out | apply below_alloc | apply pw_below_drewN | apply below_drew1) | exact HB.out))) : w.heap.size ≤ gb218)); have n3_ := Aside0.mk ((by rw [hg]; exact (below_size (by repeat (first | (with_reducible first | exact HB.out | apply below_alloc | apply pw_below_drewN | apply below_drew1) | exact HB.out))) : w.heap.size ≤ gb218)); clear HB; have HB := n0_; have BK218 := n1_; have GW218 := n2_; have GE218 := n3_; clear n0_ n1_ n2_ n3_; clear hb hbox hg; have hcz17_0 : w16.cell? ⟨gb218, 0, none⟩ = some (.int .i64 a0_0) := (blk_cell BK218.out 0).trans rfl; have hcz17_1 : w16.cell? ⟨gb218, 1, none⟩ = some (.int .i64 a0_1) := (blk_cell BK218.out 1).trans rfl; have hcz17_2 : w16.cell? ⟨gb218, 2, none⟩ = some (.int .i64 a0_2) := (blk_cell BK218.out 2).trans rfl; have hcz17_3 : w16.cell? ⟨gb218, 3, none⟩ = some (.int .i64 a0_3) := (blk_cell BK218.out 3).trans rfl; have hcz17_4 : w16.cell? ⟨gb218, 4, none⟩ = some (.int .i64 a0_4) := (blk_cell BK218.out 4).trans rfl; have hcz17_5 : w16.cell? ⟨gb218, 5, none⟩ = some (.int .i64 a0_5) := (blk_cell BK218.out 5).trans rfl; have hcz17_6 : w16.cell? ⟨gb218, 6, none⟩ = some (.int .i64 a0_6) := (blk_cell BK218.out 6).trans rfl; have hcz17_7 : w16.cell? ⟨gb218, 7, none⟩ = some (.int .i64 a0_7) := (blk_cell BK218.out 7).trans rfl; have hfz17_0 := blk_frozen BK218.out 0; have hfz17_1 := blk_frozen BK218.out 1; have hfz17_2 := blk_frozen BK218.out 2; have hfz17_3 := blk_frozen BK218.out 3; have hfz17_4 := blk_frozen BK218.out 4; have hfz17_5 := blk_frozen BK218.out 5; have hfz17_6 := blk_frozen BK218.out 6; have hfz17_7 := blk_frozen BK218.out 7))
            go_ret
            exact ⟨by first | rfl | (simp [errW_none, errW_some] <;> rfl) | (simp [*, errW_none, errW_some] <;> rfl), by repeat (first | (with_reducible first | exact HB.out | apply below_alloc | apply pw_below_drewN | apply below_drew1 | refine below_set ?_ GE218.out) | exact HB.out)⟩
          · rw [if_neg c15] at H
            have c15b0 : (a1 == 68) = false := beq_eq_false_iff_ne.mpr c15
            have c15b1 : (a1 != 68) = true := bne_iff_ne.mpr c15
            by_cases c18 : a1 = 81
            · rw [if_pos c18] at H
              have c18b0 : (a1 == 81) = true := beq_iff_eq.mpr c18
              have c18b1 : (a1 != 81) = false := bne_eq_false_iff_eq.mpr c18
              clear c18
              obtain rfl := Option.some.inj H
              go_enter Try.func25, Try.ntmps25
              go_wp2_with (first | ((with_reducible refine gate_dst (N := 2) rfl ?_); refine box_event ?hg (N := 2) ?hd (cs := #[.int .i64 a0_0, .int .i64 a0_1, .int .i64 a0_2, .int .i64 a0_3, .int .i64 a0_4, .int .i64 a0_5, .int .i64 a0_6, .int .i64 a0_7]) (t := 23) ?hr ?_; (case hd => rfl); (case hg => rfl); (case hr => first | (go_simp; done) | (go_simp; rfl)); intro gb218 hg w19 hbox hb; have n0_ := Aside0.mk (below_step (by repeat (first | (with_reducible first | exact HB.out | apply below_alloc | apply pw_below_drewN | apply below_drew1) | exact HB.out)) hb); have n1_ := Aside0.mk (hbox); have n2_ := Aside0.mk ((by rw [hg]; exact (below_size (by repeat (first | (with_reducible first | exact HB.out | apply below_alloc | apply pw_below_drewN | apply below_drew1) | exact HB.out))) : w.heap.size ≤ gb218)); have n3_ := Aside0.mk ((by rw [hg]; exact (below_size (by repeat (first | (with_reducible first | exact HB.out | apply below_alloc | apply pw_below_drewN | apply below_drew1) | exact HB.out))) : w.heap.size ≤ gb218)); clear HB; have HB := n0_; have BK218 := n1_; have GW218 := n2_; have GE218 := n3_; clear n0_ n1_ n2_ n3_; clear hb hbox hg; have hcz20_0 : w19.cell? ⟨gb218, 0, none⟩ = some (.int .i64 a0_0) := (blk_cell BK218.out 0).trans rfl; have hcz20_1 : w19.cell? ⟨gb218, 1, none⟩ = some (.int .i64 a0_1) := (blk_cell BK218.out 1).trans rfl; have hcz20_2 : w19.cell? ⟨gb218, 2, none⟩ = some (.int .i64 a0_2) := (blk_cell BK218.out 2).trans rfl; have hcz20_3 : w19.cell? ⟨gb218, 3, none⟩ = some (.int .i64 a0_3) := (blk_cell BK218.out 3).trans rfl; have hcz20_4 : w19.cell? ⟨gb218, 4, none⟩ = some (.int .i64 a0_4) := (blk_cell BK218.out 4).trans rfl; have hcz20_5 : w19.cell? ⟨gb218, 5, none⟩ = some (.int .i64 a0_5) := (blk_cell BK218.out 5).trans rfl; have hcz20_6 : w19.cell? ⟨gb218, 6, none⟩ = some (.int .i64 a0_6) := (blk_cell BK218.out 6).trans rfl; have hcz20_7 : w19.cell? ⟨gb218, 7, none⟩ = some (.int .i64 a0_7) := (blk_cell BK218.out 7).trans rfl; have hfz20_0 := blk_frozen BK218.out 0; have hfz20_1 := blk_frozen BK218.out 1; have hfz20_2 := blk_frozen BK218.out 2; have hfz20_3 := blk_frozen BK218.out 3; have hfz20_4 := blk_frozen BK218.out 4; have hfz20_5 := blk_frozen BK218.out 5; have hfz20_6 := blk_frozen BK218.out 6; have hfz20_7 := blk_frozen BK218.out 7))
              go_ret
              exact ⟨by first | rfl | (simp [errW_none, errW_some] <;> rfl) | (simp [*, errW_none, errW_some] <;> rfl), by repeat (first | (with_reducible first | exact HB.out | apply below_alloc | apply pw_below_drewN | apply below_drew1 | refine below_set ?_ GE218.out) | exact HB.out)⟩
            · rw [if_neg c18] at H
              have c18b0 : (a1 == 81) = false := beq_eq_false_iff_ne.mpr c18
              have c18b1 : (a1 != 81) = true := bne_iff_ne.mpr c18
              obtain rfl := Option.some.inj H
              go_enter Try.func25, Try.ntmps25
              go_wp2_with (first | ((with_reducible refine gate_dst (N := 2) rfl ?_); refine box_event ?hg (N := 2) ?hd (cs := #[.int .i64 a0_0, .int .i64 a0_1, .int .i64 a0_2, .int .i64 a0_3, .int .i64 a0_4, .int .i64 a0_5, .int .i64 a0_6, .int .i64 a0_7]) (t := 23) ?hr ?_; (case hd => rfl); (case hg => rfl); (case hr => first | (go_simp; done) | (go_simp; rfl)); intro gb218 hg w21 hbox hb; have n0_ := Aside0.mk (below_step (by repeat (first | (with_reducible first | exact HB.out | apply below_alloc | apply pw_below_drewN | apply below_drew1) | exact HB.out)) hb); have n1_ := Aside0.mk (hbox); have n2_ := Aside0.mk ((by rw [hg]; exact (below_size (by repeat (first | (with_reducible first | exact HB.out | apply below_alloc | apply pw_below_drewN | apply below_drew1) | exact HB.out))) : w.heap.size ≤ gb218)); have n3_ := Aside0.mk ((by rw [hg]; exact (below_size (by repeat (first | (with_reducible first | exact HB.out | apply below_alloc | apply pw_below_drewN | apply below_drew1) | exact HB.out))) : w.heap.size ≤ gb218)); clear HB; have HB := n0_; have BK218 := n1_; have GW218 := n2_; have GE218 := n3_; clear n0_ n1_ n2_ n3_; clear hb hbox hg; have hcz22_0 : w21.cell? ⟨gb218, 0, none⟩ = some (.int .i64 a0_0) := (blk_cell BK218.out 0).trans rfl; have hcz22_1 : w21.cell? ⟨gb218, 1, none⟩ = some (.int .i64 a0_1) := (blk_cell BK218.out 1).trans rfl; have hcz22_2 : w21.cell? ⟨gb218, 2, none⟩ = some (.int .i64 a0_2) := (blk_cell BK218.out 2).trans rfl; have hcz22_3 : w21.cell? ⟨gb218, 3, none⟩ = some (.int .i64 a0_3) := (blk_cell BK218.out 3).trans rfl; have hcz22_4 : w21.cell? ⟨gb218, 4, none⟩ = some (.int .i64 a0_4) := (blk_cell BK218.out 4).trans rfl; have hcz22_5 : w21.cell? ⟨gb218, 5, none⟩ = some (.int .i64 a0_5) := (blk_cell BK218.out 5).trans rfl; have hcz22_6 : w21.cell? ⟨gb218, 6, none⟩ = some (.int .i64 a0_6) := (blk_cell BK218.out 6).trans rfl; have hcz22_7 : w21.cell? ⟨gb218, 7, none⟩ = some (.int .i64 a0_7) := (blk_cell BK218.out 7).trans rfl; have hfz22_0 := blk_frozen BK218.out 0; have hfz22_1 := blk_frozen BK218.out 1; have hfz22_2 := blk_frozen BK218.out 2; have hfz22_3 := blk_frozen BK218.out 3; have hfz22_4 := blk_frozen BK218.out 4; have hfz22_5 := blk_frozen BK218.out 5; have hfz22_6 := blk_frozen BK218.out 6; have hfz22_7 := blk_frozen BK218.out 7))
              go_ret
              exact ⟨by first | rfl | (simp [errW_none, errW_some] <;> rfl) | (simp [*, errW_none, errW_some] <;> rfl), by repeat (first | (with_reducible first | exact HB.out | apply below_alloc | apply pw_below_drewN | apply below_drew1 | refine below_set ?_ GE218.out) | exact HB.out)⟩

/-! ### novationref4_Kind: function 28 -/
def novationref4_Kind.f (a0 : Int) : Option (Bool) := if a0 ≥ 1 then (some (decide (a0 ≤ 22))) else (some false)
set_option maxHeartbeats 8000000 in
set_option maxRecDepth 100000 in
theorem novationref4_Kind.calls (a0 : Int) (r : Bool) (w : World) (h : novationref4_Kind.f a0 = some r) :
    Calls Try.prog 28 #[.int .i64 a0] w fun e w' => e = .returned (.bool r) ∧ Drawn0 w w' := by
  have H : (if a0 ≥ 1 then (some (decide (a0 ≤ 22))) else (some false)) = some r := h
  clear h
  by_cases c2 : a0 ≥ 1
  · rw [if_pos c2] at H
    have c2b0 : decide (1 ≤ a0) = true := decide_eq_true c2
    clear c2
    obtain rfl := Option.some.inj H
    go_enter Try.func28, Try.ntmps28
    go_wp2
    go_ret
    exact ⟨by first | rfl | (simp; done) | (simp [*]; done), by repeat (first | exact Drawn0.refl _ | apply Drawn0.step)⟩
  · rw [if_neg c2] at H
    have c2b0 : decide (1 ≤ a0) = false := decide_eq_false c2
    clear c2
    obtain rfl := Option.some.inj H
    go_enter Try.func28, Try.ntmps28
    go_wp2
    go_ret
    exact ⟨by first | rfl | (simp; done) | (simp [*]; done), by repeat (first | exact Drawn0.refl _ | apply Drawn0.step)⟩

/-! ### novationref4_quantities: function 39 -/
def novationref4_quantities.j0 : Nat → Int → Bool → Option (Int × Int)
  | 0, _, _ => none
  | k + 1, x4, x7 => if x7 = true then (some (1, 1000000000)) else (if x4 = 10 then (some (1, 1000000)) else (some (1, 9223372036854775807)))
def novationref4_quantities.f (k : Nat) (a0 : Int) : Option (Int × Int) := if a0 = 6 then (some (0, 1000000000000)) else (if a0 = 7 then (novationref4_quantities.j0 k a0 (a0 == 7)) else (novationref4_quantities.j0 k a0 (a0 == 17)))
theorem novationref4_quantities.mono_l : ∀ k, (∀ y0 y1, LeO (novationref4_quantities.j0 k y0 y1) (novationref4_quantities.j0 (k + 1) y0 y1))
  | 0 => fun _ _ r h => by simp [novationref4_quantities.j0] at h
  | k + 1 => by
    have ih0 := novationref4_quantities.mono_l k
    · intro y0 y1
      unfold novationref4_quantities.j0
      repeat' first
      | (with_reducible exact ih0 _ _)
      | (with_reducible exact LeO.refl _)
      | (with_reducible exact LeO.none _)
      | (with_reducible refine LeO.ite ?_ ?_)
      | (with_reducible refine LeO.bind ?_ (fun _ => ?_))
      | exact ih0 _ _
      | exact LeO.none _
      | refine LeO.ite ?_ ?_
      | refine LeO.bind ?_ (fun _ => ?_)
theorem novationref4_quantities.mono : ∀ a0 k, LeO (novationref4_quantities.f k a0) (novationref4_quantities.f (k + 1) a0) := by
  intro a0 k
  have ih0 := novationref4_quantities.mono_l k
  unfold novationref4_quantities.f
  repeat' first
      | (with_reducible exact ih0 _ _)
      | (with_reducible exact LeO.refl _)
      | (with_reducible exact LeO.none _)
      | (with_reducible refine LeO.ite ?_ ?_)
      | (with_reducible refine LeO.bind ?_ (fun _ => ?_))
      | exact ih0 _ _
      | exact LeO.none _
      | refine LeO.ite ?_ ?_
      | refine LeO.bind ?_ (fun _ => ?_)
set_option maxHeartbeats 8000000 in
set_option maxRecDepth 100000 in
theorem novationref4_quantities.calls (k : Nat) (a0 : Int) (r1 : Int) (r2 : Int) (w : World) (h : novationref4_quantities.f k a0 = some (r1, r2)) :
    Calls Try.prog 39 #[.int .i64 a0] w fun e w' => e = .returned (.tuple #[.int .i64 r1, .int .i64 r2]) ∧ Drawn0 w w' := by
  have H : (if a0 = 6 then (some (0, 1000000000000)) else (if a0 = 7 then (novationref4_quantities.j0 k a0 (a0 == 7)) else (novationref4_quantities.j0 k a0 (a0 == 17)))) = some (r1, r2) := h
  clear h
  by_cases c2 : a0 = 6
  · rw [if_pos c2] at H
    have c2b0 : (a0 == 6) = true := beq_iff_eq.mpr c2
    have c2b1 : (a0 != 6) = false := bne_eq_false_iff_eq.mpr c2
    clear c2
    simp only [Option.some.injEq, Prod.mk.injEq] at H
    obtain ⟨rfl, rfl⟩ := H
    go_enter Try.func39, Try.ntmps39
    go_wp2
    go_ret2
    exact ⟨by first | rfl | (simp; done) | (simp [*]; done), by repeat (first | exact Drawn0.refl _ | apply Drawn0.step)⟩
  · rw [if_neg c2] at H
    have c2b0 : (a0 == 6) = false := beq_eq_false_iff_ne.mpr c2
    have c2b1 : (a0 != 6) = true := bne_iff_ne.mpr c2
    have HC3 := Aside0.mk H
    clear H
    go_enter Try.func39, Try.ntmps39
    go_upto_if 7 with (fail)
    go_cut [7] (fun v7 wc => ∃ (kq : Nat) (x7_2 : Bool), v7 = .bool x7_2 ∧ Aside0 (novationref4_quantities.j0 kq a0 x7_2 = some (r1, r2)) ∧ Aside0 (kq ≤ k) ∧ Drawn0 w wc)
    case first =>
      have H := HC3.out
      clear HC3
      by_cases c4 : a0 = 7
      · rw [if_pos c4] at H
        have c4b0 : (a0 == 7) = true := beq_iff_eq.mpr c4
        have c4b1 : (a0 != 7) = false := bne_eq_false_iff_eq.mpr c4
        clear c4
        (first | rw [c4b0] | (simp only [i64_w, i32_w]; rw [c4b0]) | skip)
        have H' := Aside0.mk H
        clear H
        go_wp2
        go_meet
        case rel => exact ⟨_, ((a0 == 7)), (by first | rfl | (simp; done) | (simp [*]; done)), H', ⟨by first | omega | exact Nat.le_refl _⟩, by repeat (first | exact Drawn0.refl _ | apply Drawn0.step)⟩
      · rw [if_neg c4] at H
        have c4b0 : (a0 == 7) = false := beq_eq_false_iff_ne.mpr c4
        have c4b1 : (a0 != 7) = true := bne_iff_ne.mpr c4
        (first | rw [c4b0] | (simp only [i64_w, i32_w]; rw [c4b0]) | skip)
        have H' := Aside0.mk H
        clear H
        go_wp2
        go_meet
        case rel => exact ⟨_, ((a0 == 17)), (by first | rfl | (simp; done) | (simp [*]; done)), H', ⟨by first | omega | exact Nat.le_refl _⟩, by repeat (first | exact Drawn0.refl _ | apply Drawn0.step)⟩
    case rest =>
      clear HC3
      try clear c2
      try clear c2b0
      try clear c2b1
      try clear p2
      try clear c3
      try clear c4
      try clear c4b0
      try clear c4b1
      obtain ⟨kq, x7_2, rfl, HA, HJ2, ⟨mc2, rfl⟩⟩ := hcut
      cases kq with
      | zero => exact absurd HA.out (by simp [novationref4_quantities.j0])
      | succ kj2 =>
        have H := HA.out
        clear HA
        simp only [novationref4_quantities.j0] at H
        by_cases c5 : x7_2 = true
        · subst c5
          have H1 : (some (1, 1000000000)) = some (r1, r2) := by rw [if_pos rfl] at H; exact H
          clear H
          have H := H1
          clear H1
          simp only [Option.some.injEq, Prod.mk.injEq] at H
          obtain ⟨rfl, rfl⟩ := H
          go_wp2
          go_ret2
          exact ⟨by first | rfl | (simp; done) | (simp [*]; done), by repeat (first | exact Drawn0.refl _ | apply Drawn0.step)⟩
        · replace c5 := Bool.eq_false_iff.mpr c5
          subst c5
          have H1 : (if a0 = 10 then (some (1, 1000000)) else (some (1, 9223372036854775807))) = some (r1, r2) := by rw [if_neg (show ¬ (false = true) by decide)] at H; exact H
          clear H
          have H := H1
          clear H1
          by_cases c6 : a0 = 10
          · rw [if_pos c6] at H
            have c6b0 : (a0 == 10) = true := beq_iff_eq.mpr c6
            have c6b1 : (a0 != 10) = false := bne_eq_false_iff_eq.mpr c6
            clear c6
            simp only [Option.some.injEq, Prod.mk.injEq] at H
            obtain ⟨rfl, rfl⟩ := H
            go_wp2
            go_ret2
            exact ⟨by first | rfl | (simp; done) | (simp [*]; done), by repeat (first | exact Drawn0.refl _ | apply Drawn0.step)⟩
          · rw [if_neg c6] at H
            have c6b0 : (a0 == 10) = false := beq_eq_false_iff_ne.mpr c6
            have c6b1 : (a0 != 10) = true := bne_iff_ne.mpr c6
            simp only [Option.some.injEq, Prod.mk.injEq] at H
            obtain ⟨rfl, rfl⟩ := H
            go_wp2
            go_ret2
            exact ⟨by first | rfl | (simp; done) | (simp [*]; done), by repeat (first | exact Drawn0.refl _ | apply Drawn0.step)⟩

/-! ### novationref4_prices: function 40 -/
def novationref4_prices.f (a0 : Int) : Option (Int × Int) := if a0 = 19 then (some ((-1152921504606846976), 1152921504606846976)) else (some (1, 1000000000000))
set_option maxHeartbeats 8000000 in
set_option maxRecDepth 100000 in
theorem novationref4_prices.calls (a0 : Int) (r1 : Int) (r2 : Int) (w : World) (h : novationref4_prices.f a0 = some (r1, r2)) :
    Calls Try.prog 40 #[.int .i64 a0] w fun e w' => e = .returned (.tuple #[.int .i64 r1, .int .i64 r2]) ∧ Drawn0 w w' := by
  have H : (if a0 = 19 then (some ((-1152921504606846976), 1152921504606846976)) else (some (1, 1000000000000))) = some (r1, r2) := h
  clear h
  by_cases c2 : a0 = 19
  · rw [if_pos c2] at H
    have c2b0 : (a0 == 19) = true := beq_iff_eq.mpr c2
    have c2b1 : (a0 != 19) = false := bne_eq_false_iff_eq.mpr c2
    clear c2
    simp only [Option.some.injEq, Prod.mk.injEq] at H
    obtain ⟨rfl, rfl⟩ := H
    go_enter Try.func40, Try.ntmps40
    go_wp2
    go_ret2
    exact ⟨by first | rfl | (simp; done) | (simp [*]; done), by repeat (first | exact Drawn0.refl _ | apply Drawn0.step)⟩
  · rw [if_neg c2] at H
    have c2b0 : (a0 == 19) = false := beq_eq_false_iff_ne.mpr c2
    have c2b1 : (a0 != 19) = true := bne_iff_ne.mpr c2
    simp only [Option.some.injEq, Prod.mk.injEq] at H
    obtain ⟨rfl, rfl⟩ := H
    go_enter Try.func40, Try.ntmps40
    go_wp2
    go_ret2
    exact ⟨by first | rfl | (simp; done) | (simp [*]; done), by repeat (first | exact Drawn0.refl _ | apply Drawn0.step)⟩

end Go.Proofs.Ytdhedlkfpdakpaa.QEventReads
