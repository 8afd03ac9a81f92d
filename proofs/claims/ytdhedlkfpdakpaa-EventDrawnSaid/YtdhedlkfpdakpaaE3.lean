import Derived.Test.YtdhedlkfpdakpaaE1
import Derived.Test.YtdhedlkfpdakpaaE2
import Derived.WalkKit
/-! Events: the small functions. -/
set_option linter.unusedVariables false
set_option linter.unusedSimpArgs false
set_option maxHeartbeats 4000000
set_option maxRecDepth 100000
namespace Go.Proofs.Ytdhedlkfpdakpaa.T
open Go Go.Ab
section
variable {k : Nat} {H : AH}
theorem fields_ok {n : Int} : callA ap (k + 1) (.func 14 [] []) [.int .i64 n] 0 H = some (.str (strN (fld n)), H) := by
  by_cases h1 : n = 1
  · subst h1; kernel_rfl
  by_cases h11 : n = 11
  · subst h11; kernel_rfl
  by_cases h12 : n = 12
  · subst h12; kernel_rfl
  by_cases h13 : n = 13
  · subst h13; kernel_rfl
  by_cases h2 : n = 2
  · subst h2; kernel_rfl
  by_cases h3 : n = 3
  · subst h3; kernel_rfl
  by_cases h4 : n = 4
  · subst h4; kernel_rfl
  by_cases h6 : n = 6
  · subst h6; kernel_rfl
  by_cases h5 : n = 5
  · subst h5; kernel_rfl
  by_cases h22 : n = 22
  · subst h22; kernel_rfl
  by_cases h7 : n = 7
  · subst h7; kernel_rfl
  by_cases h8 : n = 8
  · subst h8; kernel_rfl
  by_cases h9 : n = 9
  · subst h9; kernel_rfl
  by_cases h10 : n = 10
  · subst h10; kernel_rfl
  by_cases h14 : n = 14
  · subst h14; kernel_rfl
  by_cases h17 : n = 17
  · subst h17; kernel_rfl
  by_cases h19 : n = 19
  · subst h19; kernel_rfl
  have hf : fld n = [] := by simp [fld, h1, h11, h12, h13, h2, h3, h4, h6, h5, h22, h7, h8, h9, h10, h14, h17, h19]
  rw [← Hx_eq, hx_go fn14 rfl, b14, hf]
  simp (config := {maxSteps := 5000000}) [f14, b14, h1, h11, h12, h13, h2, h3, h4, h6, h5, h22, h7, h8, h9, h10, h14, h17, h19]
  rfl
theorem rfields_ok {n : Int} : callA ap (k + 1) (.func 15 [] []) [.int .i64 n] 0 H = some (.str (strN (fld n)), H) := by
  by_cases h1 : n = 1
  · subst h1; kernel_rfl
  by_cases h11 : n = 11
  · subst h11; kernel_rfl
  by_cases h12 : n = 12
  · subst h12; kernel_rfl
  by_cases h13 : n = 13
  · subst h13; kernel_rfl
  by_cases h2 : n = 2
  · subst h2; kernel_rfl
  by_cases h3 : n = 3
  · subst h3; kernel_rfl
  by_cases h4 : n = 4
  · subst h4; kernel_rfl
  by_cases h6 : n = 6
  · subst h6; kernel_rfl
  by_cases h5 : n = 5
  · subst h5; kernel_rfl
  by_cases h22 : n = 22
  · subst h22; kernel_rfl
  by_cases h7 : n = 7
  · subst h7; kernel_rfl
  by_cases h8 : n = 8
  · subst h8; kernel_rfl
  by_cases h9 : n = 9
  · subst h9; kernel_rfl
  by_cases h10 : n = 10
  · subst h10; kernel_rfl
  by_cases h14 : n = 14
  · subst h14; kernel_rfl
  by_cases h17 : n = 17
  · subst h17; kernel_rfl
  by_cases h19 : n = 19
  · subst h19; kernel_rfl
  have hf : fld n = [] := by simp [fld, h1, h11, h12, h13, h2, h3, h4, h6, h5, h22, h7, h8, h9, h10, h14, h17, h19]
  rw [← Hx_eq, hx_go fn15 rfl, b15, hf]
  simp (config := {maxSteps := 5000000}) [f15, b15, h1, h11, h12, h13, h2, h3, h4, h6, h5, h22, h7, h8, h9, h10, h14, h17, h19]
  rfl
theorem get_ok {e : E8} {l : Int} : Hx (callA ap (k + 1) (.func 23 [] []) [.agg e.cs, .int .u8 l] 0 H) fun r => r.1 = .int .i64 (gt e l) ∧ Chg [] H r.2 := by
  rw [hx_go fn23 rfl, b23]
  by_cases h77 : l = 77
  · simp [f23, b23, E8.cs, h77, gt]; exact .app _ _
  by_cases h65 : l = 65
  · simp [f23, b23, E8.cs, h65, gt]; exact .app _ _
  by_cases h73 : l = 73
  · simp [f23, b23, E8.cs, h73, gt]; exact .app _ _
  by_cases h83 : l = 83
  · simp [f23, b23, E8.cs, h83, gt]; exact .app _ _
  by_cases h68 : l = 68
  · simp [f23, b23, E8.cs, h68, gt]; exact .app _ _
  by_cases h81 : l = 81
  · simp [f23, b23, E8.cs, h81, gt]; exact .app _ _
  simp [f23, b23, E8.cs, h77, h65, h73, h83, h68, h81, gt]; exact .app _ _
theorem value_ok {e : E8} {l : Int} : Hx (callA ap (k + 1) (.func 25 [] []) [.agg e.cs, .int .u8 l] 0 H) fun r => r.1 = .int .i64 (gt e l) ∧ Chg [] H r.2 := by
  rw [hx_go fn25 rfl, b25]
  by_cases h77 : l = 77
  · simp [f25, b25, E8.cs, h77, gt]; exact .app _ _
  by_cases h65 : l = 65
  · simp [f25, b25, E8.cs, h65, gt]; exact .app _ _
  by_cases h73 : l = 73
  · simp [f25, b25, E8.cs, h73, gt]; exact .app _ _
  by_cases h83 : l = 83
  · simp [f25, b25, E8.cs, h83, gt]; exact .app _ _
  by_cases h68 : l = 68
  · simp [f25, b25, E8.cs, h68, gt]; exact .app _ _
  by_cases h81 : l = 81
  · simp [f25, b25, E8.cs, h81, gt]; exact .app _ _
  simp [f25, b25, E8.cs, h77, h65, h73, h83, h68, h81, gt]; exact .app _ _
theorem with_ok {e : E8} {l v : Int} : Hx (callA ap (k + 1) (.func 27 [] []) [.agg e.cs, .int .u8 l, .int .i64 v] 0 H) fun r => r.1 = .agg (wth e l v).cs ∧ Chg [] H r.2 := by
  rw [hx_go fn27 rfl, b27]
  by_cases h77 : l = 77
  · simp [f27, b27, E8.cs, h77, wth]; exact .app _ _
  by_cases h65 : l = 65
  · simp [f27, b27, E8.cs, h65, wth]; exact .app _ _
  by_cases h73 : l = 73
  · simp [f27, b27, E8.cs, h73, wth]; exact .app _ _
  by_cases h83 : l = 83
  · simp [f27, b27, E8.cs, h83, wth]; exact .app _ _
  by_cases h68 : l = 68
  · simp [f27, b27, E8.cs, h68, wth]; exact .app _ _
  by_cases h81 : l = 81
  · simp [f27, b27, E8.cs, h81, wth]; exact .app _ _
  simp [f27, b27, E8.cs, h77, h65, h73, h83, h68, h81, wth]; exact .app _ _
theorem rwith_ok {e : E8} {l v : Int} : Hx (callA ap (k + 1) (.func 30 [] []) [.agg e.cs, .int .u8 l, .int .i64 v] 0 H) fun r => r.1 = .agg (wth e l v).cs ∧ Chg [] H r.2 := by
  rw [hx_go fn30 rfl, b30]
  by_cases h77 : l = 77
  · simp [f30, b30, E8.cs, h77, wth]; exact .app _ _
  by_cases h65 : l = 65
  · simp [f30, b30, E8.cs, h65, wth]; exact .app _ _
  by_cases h73 : l = 73
  · simp [f30, b30, E8.cs, h73, wth]; exact .app _ _
  by_cases h83 : l = 83
  · simp [f30, b30, E8.cs, h83, wth]; exact .app _ _
  by_cases h68 : l = 68
  · simp [f30, b30, E8.cs, h68, wth]; exact .app _ _
  by_cases h81 : l = 81
  · simp [f30, b30, E8.cs, h81, wth]; exact .app _ _
  simp [f30, b30, E8.cs, h77, h65, h73, h83, h68, h81, wth]; exact .app _ _
theorem kind_ok {n : Int} : callA ap (k + 1) (.func 28 [] []) [.int .i64 n] 0 H = some (.bool (decide (1 ≤ n) && decide (n ≤ 22)), H) := by
  rw [← Hx_eq, hx_go fn28 rfl, b28]
  by_cases h : 1 ≤ n
  · simp [f28, b28, h]
  · simp [f28, b28, h]
theorem bounds_ok {n l : Int} : callA ap (k + 1) (.func 26 [] []) [.int .i64 n, .int .u8 l] 0 H = some (.tuple [.int .i64 (bnd n l).1, .int .i64 (bnd n l).2], H) := by
  rw [← Hx_eq, hx_go fn26 rfl, b26]
  by_cases h77 : l = 77
  · simp [f26, b26, h77, bnd]
  by_cases h65 : l = 65
  · simp [f26, b26, h65, bnd]
  by_cases h73 : l = 73
  · simp [f26, b26, h73, bnd]
  by_cases h83 : l = 83
  · simp [f26, b26, h83, bnd]
  by_cases h68 : l = 68
  · simp [f26, b26, h68, bnd]
  by_cases h80 : l = 80
  · by_cases h19 : n = 19
    · simp [f26, b26, h80, h19, bnd]
    · simp [f26, b26, h80, h19, bnd]
  by_cases h6 : n = 6
  · simp [f26, b26, h77, h65, h73, h83, h68, h80, h6, bnd]
  by_cases h10 : n = 10
  · simp [f26, b26, h77, h65, h73, h83, h68, h80, h6, h10, bnd]
  by_cases h7 : n = 7
  · simp [f26, b26, h77, h65, h73, h83, h68, h80, h6, h10, h7, bnd]
  by_cases h17 : n = 17
  · simp [f26, b26, h77, h65, h73, h83, h68, h80, h6, h10, h7, h17, bnd]
  simp [f26, b26, h77, h65, h73, h83, h68, h80, h6, h10, h7, h17, bnd]
theorem prices_ok {n : Int} : callA ap (k + 1) (.func 40 [] []) [.int .i64 n] 0 H = some (.tuple [.int .i64 (bnd n 80).1, .int .i64 (bnd n 80).2], H) := by
  rw [← Hx_eq, hx_go fn40 rfl, b40]
  by_cases h : n = 19
  · simp [f40, b40, h, bnd]
  · simp [f40, b40, h, bnd]
theorem quantities_ok {n : Int} : callA ap (k + 1) (.func 39 [] []) [.int .i64 n] 0 H = some (.tuple [.int .i64 (bnd n 81).1, .int .i64 (bnd n 81).2], H) := by
  rw [← Hx_eq, hx_go fn39 rfl, b39]
  by_cases h6 : n = 6
  · simp [f39, b39, h6, bnd]
  by_cases h7 : n = 7
  · simp [f39, b39, h7, bnd]
  by_cases h17 : n = 17
  · simp [f39, b39, h17, bnd]
  by_cases h10 : n = 10
  · simp [f39, b39, h10, bnd]
  simp [f39, b39, h6, h7, h17, h10, bnd]
theorem rbounds_ok {n l : Int} (hl : isLetter l) : callA ap (k + 2) (.func 29 [] []) [.int .i64 n, .int .u8 l] 0 H = some (.tuple [.int .i64 (bnd n l).1, .int .i64 (bnd n l).2], H) := by
  rw [← Hx_eq, hx_go fn29 rfl, b29]
  rcases hl with rfl | rfl | rfl | rfl | rfl | rfl | rfl
  · simp [f29, b29, bnd]
  · simp [f29, b29, bnd]
  · simp [f29, b29, bnd]
  · simp [f29, b29, bnd]
  · simp [f29, b29, bnd]
  · simp [f29, b29, quantities_ok]
  · simp [f29, b29, prices_ok]
end
end Go.Proofs.Ytdhedlkfpdakpaa.T
