import Derived.Test.YtcmpldjoggeceaaGJ143
section
/-! The tables of the abstract reading. Written by wip/ab/abgen.py (an own program) out of the loaded program. -/
set_option linter.unusedVariables false
set_option maxRecDepth 100000
namespace Go.Proofs.Ytcmpldjoggeceaa.T
open Go Go.Ab
noncomputable def f59 : AFn := ⟨14, [.tmp 2, .tmp 3], b59⟩
/-- novation/novationref4.Records -/
noncomputable def b60 : AC :=
  .seq (.region [⟨some 2, .assign (.const (.slice none 0 0)), 52, none, true⟩, ⟨some 3, .assign (.const (.slice none 0 0)), 106, none, true⟩, ⟨some 4, .assign (.const (.int .i64 0)), 3, none, true⟩])
  (.seq (.region [⟨some 5, .assign (.const (.slice none 0 0)), 52, none, true⟩])
  (.seq (.region [⟨some 6, .assign (.const (.slice none 0 0)), 106, none, true⟩])
  (.seq (.region [⟨some 7, .assign (.const (.int .i64 0)), 3, none, true⟩])
  (.block 0 (.loop [true, false, false, false, false, true, true, true, false, false, false, false, false, false, false, false, false, false, false, false, false, false, false, false, false, false, false, false, false, false, false, false, false, false, false] (.block 1 (.seq (.region [⟨some 12, .move (.tmp 0), 41, none, true⟩, ⟨some 13, .move (.tmp 7), 3, none, true⟩, ⟨some 14, .slice 41 (.tmp 12) (some (.tmp 13)) none none, 41, none, true⟩, ⟨some 15, .call (⟨.value (.func 86), #[.tmp 14], #[41]⟩), 115, none, true⟩, ⟨some 11, .move (.tmp 15), 115, none, true⟩, ⟨some 16, .extract (.tmp 11) 0, 41, none, true⟩, ⟨some 17, .extract (.tmp 11) 1, 3, none, true⟩, ⟨some 18, .extract (.tmp 11) 2, 34, none, true⟩, ⟨some 8, .assign (.tmp 16), 41, none, true⟩, ⟨some 9, .assign (.tmp 17), 3, none, true⟩, ⟨some 10, .assign (.tmp 18), 34, none, true⟩])
  (.seq (.seq (.region [⟨some 19, .move (.tmp 10), 34, none, true⟩, ⟨some 20, .binOp .neq 34 (.tmp 19) (.const (.int .i64 0)) 34, 4, none, true⟩])
  (.cond (.tmp 20) (.seq (.region [⟨some 21, .move (.tmp 5), 52, none, true⟩, ⟨some 22, .move (.tmp 6), 106, none, true⟩, ⟨some 23, .move (.tmp 7), 3, none, true⟩, ⟨some 2, .assign (.tmp 21), 52, none, true⟩, ⟨some 3, .assign (.tmp 22), 106, none, true⟩, ⟨some 4, .assign (.tmp 23), 3, none, true⟩])
  .ret) .skip))
  (.seq (.region [⟨some 24, .move (.tmp 5), 52, none, true⟩, ⟨some 25, .move (.tmp 7), 3, none, true⟩, ⟨some 26, .buildSlice 52 1 #[(0, .tmp 25)], 52, none, true⟩, ⟨some 27, .call (⟨.builtin .append, #[.tmp 24, .tmp 26], #[52, 52]⟩), 52, none, true⟩, ⟨some 28, .move (.tmp 6), 106, none, true⟩, ⟨some 29, .move (.tmp 8), 41, none, true⟩, ⟨some 30, .buildSlice 106 1 #[(0, .tmp 29)], 106, none, true⟩, ⟨some 31, .call (⟨.builtin .append, #[.tmp 28, .tmp 30], #[106, 106]⟩), 106, none, true⟩, ⟨some 5, .assign (.tmp 27), 52, none, true⟩, ⟨some 6, .assign (.tmp 31), 106, none, true⟩])
  (.region [⟨some 32, .move (.tmp 7), 3, none, true⟩, ⟨some 33, .move (.tmp 9), 3, none, true⟩, ⟨some 34, .binOp .add 3 (.tmp 32) (.tmp 33) 3, 3, none, true⟩, ⟨some 7, .assign (.tmp 34), 3, none, true⟩]))))))))))
noncomputable def f60 : AFn := ⟨35, [.tmp 2, .tmp 3, .tmp 4], b60⟩
/-- (*novation/novationref4.Tape).Cut -/
noncomputable def b61 : AC :=
  .seq (.region [⟨some 4, .assign (.const (.int .i64 0)), 34, none, true⟩])
  (.seq (.seq (.region [⟨some 6, .move (.tmp 0), 57, none, true⟩, ⟨some 7, .nilCheck (.tmp 6), 0, none, true⟩, ⟨some 8, .fieldAddr 94 (.tmp 7) 5, 0, none, true⟩, ⟨some 9, .load 4 (.tmp 8), 4, none, true⟩])
  (.cond (.tmp 9) (.seq (.region [⟨some 4, .assign (.const (.int .i64 15)), 34, none, true⟩])
  .ret) .skip))
  (.seq (.seq (.region [⟨some 10, .move (.tmp 1), 3, none, true⟩, ⟨some 11, .binOp .lss 3 (.tmp 10) (.const (.int .i64 0)) 3, 4, none, true⟩, ⟨some 12, .move (.tmp 11), 4, none, true⟩, ⟨some 13, .move (.tmp 1), 3, some (some 12), false⟩, ⟨some 14, .move (.tmp 0), 57, some (some 12), false⟩, ⟨some 15, .nilCheck (.tmp 14), 0, some (some 12), false⟩, ⟨some 16, .fieldAddr 94 (.tmp 15) 0, 0, some (some 12), false⟩, ⟨some 17, .load 41 (.tmp 16), 41, some (some 12), false⟩, ⟨some 18, .call (⟨.builtin .len, #[.tmp 17], #[41]⟩), 3, some (some 12), false⟩, ⟨some 19, .binOp .gtr 3 (.tmp 13) (.tmp 18) 3, 4, some (some 12), false⟩, ⟨some 20, .pick (.tmp 12) (.const (.bool true)) (.tmp 19), 4, none, true⟩])
  (.cond (.tmp 20) (.seq (.region [⟨some 4, .assign (.const (.int .i64 1)), 34, none, true⟩])
  .ret) .skip))
  (.seq (.region [⟨some 21, .move (.tmp 0), 57, none, true⟩, ⟨some 22, .call (⟨.value (.func 58), #[.tmp 21], #[57]⟩), 4, none, true⟩, ⟨some 5, .assign (.tmp 22), 4, none, true⟩])
  (.seq (.seq (.region [⟨some 23, .move (.tmp 5), 4, none, true⟩, ⟨some 24, .unOp .not 4 (.tmp 23), 4, none, true⟩, ⟨some 25, .move (.tmp 24), 4, none, true⟩, ⟨some 26, .move (.tmp 0), 57, some (some 25), false⟩, ⟨some 27, .nilCheck (.tmp 26), 0, some (some 25), false⟩, ⟨some 28, .fieldAddr 94 (.tmp 27) 4, 0, some (some 25), false⟩, ⟨some 29, .load 3 (.tmp 28), 3, some (some 25), false⟩, ⟨some 30, .binOp .gtr 3 (.tmp 29) (.const (.int .i64 0)) 3, 4, some (some 25), false⟩, ⟨some 31, .pick (.tmp 25) (.const (.bool true)) (.tmp 30), 4, none, true⟩])
  (.cond (.tmp 31) (.region [⟨some 32, .move (.tmp 0), 57, none, true⟩, ⟨some 33, .buildSlice 41 0 #[], 41, none, true⟩, ⟨some 34, .move (.tmp 0), 57, none, true⟩, ⟨some 35, .nilCheck (.tmp 34), 0, none, true⟩, ⟨some 36, .fieldAddr 94 (.tmp 35) 0, 0, none, true⟩, ⟨some 37, .load 41 (.tmp 36), 41, none, true⟩, ⟨some 38, .move (.tmp 1), 3, none, true⟩, ⟨some 39, .slice 41 (.tmp 37) none (some (.tmp 38)) none, 41, none, true⟩, ⟨some 40, .call (⟨.builtin .append, #[.tmp 33, .tmp 39], #[41, 41]⟩), 41, none, true⟩, ⟨some 41, .nilCheck (.tmp 32), 0, none, true⟩, ⟨some 42, .fieldAddr 94 (.tmp 41) 0, 0, none, true⟩, ⟨none, .store 41 (.tmp 42) (.tmp 40), 0, none, true⟩]) .skip))
  (.seq (.seq (.region [⟨some 43, .move (.tmp 5), 4, none, true⟩])
  (.cond (.tmp 43) (.seq (.region [⟨some 4, .assign (.const (.int .i64 15)), 34, none, true⟩])
  .ret) .skip))
  (.seq (.region [⟨some 4, .assign (.const (.int .i64 0)), 34, none, true⟩])
  .ret))))))
noncomputable def f61 : AFn := ⟨44, [.tmp 4], b61⟩
/-- novation/novationref4.Events -/
noncomputable def b62 : AC :=
  .seq (.region [⟨some 2, .alloc 28, 0, none, true⟩, ⟨some 3, .assign (.const (.slice none 0 0)), 30, none, true⟩, ⟨some 4, .assign (.const (.int .i64 0)), 3, none, true⟩, ⟨some 5, .assign (.const (.bool false)), 4, none, true⟩])
  (.seq (.region [⟨some 16, .move (.tmp 0), 41, none, true⟩, ⟨some 17, .call (⟨.value (.func 60), #[.tmp 16], #[41]⟩), 107, none, true⟩, ⟨some 15, .move (.tmp 17), 107, none, true⟩, ⟨some 18, .extract (.tmp 15) 0, 52, none, true⟩, ⟨some 19, .extract (.tmp 15) 1, 106, none, true⟩, ⟨some 20, .extract (.tmp 15) 2, 3, none, true⟩, ⟨some 6, .assign (.tmp 18), 52, none, true⟩, ⟨some 7, .assign (.tmp 19), 106, none, true⟩, ⟨some 8, .assign (.tmp 20), 3, none, true⟩])
  (.seq (.seq (.region [⟨some 21, .move (.tmp 7), 106, none, true⟩, ⟨some 22, .call (⟨.builtin .len, #[.tmp 21], #[106]⟩), 3, none, true⟩, ⟨some 23, .binOp .eql 3 (.tmp 22) (.const (.int .i64 0)) 3, 4, none, true⟩])
  (.cond (.tmp 23) (.seq (.region [⟨some 24, .build 28 #[], 28, none, true⟩, ⟨none, .store 28 (.tmp 2) (.tmp 24), 0, none, true⟩, ⟨some 3, .assign (.const (.slice none 0 0)), 30, none, true⟩, ⟨some 4, .assign (.const (.int .i64 0)), 3, none, true⟩, ⟨some 5, .assign (.const (.bool false)), 4, none, true⟩])
  .ret) .skip))
  (.seq (.region [⟨some 26, .move (.tmp 7), 106, none, true⟩, ⟨some 27, .indexAddr 106 (.tmp 26) (.const (.int .i64 0)), 0, none, true⟩, ⟨some 28, .load 41 (.tmp 27), 41, none, true⟩, ⟨some 29, .call (⟨.value (.func 87), #[.tmp 28], #[41]⟩), 87, none, true⟩, ⟨some 25, .move (.tmp 29), 87, none, true⟩, ⟨some 30, .extract (.tmp 25) 0, 28, none, true⟩, ⟨some 31, .extract (.tmp 25) 1, 34, none, true⟩, ⟨some 9, .alloc 28, 0, none, true⟩, ⟨none, .store 28 (.tmp 9) (.tmp 30), 0, none, true⟩, ⟨some 10, .assign (.tmp 31), 34, none, true⟩])
  (.seq (.seq (.region [⟨some 32, .move (.tmp 10), 34, none, true⟩, ⟨some 33, .binOp .neq 34 (.tmp 32) (.const (.int .i64 0)) 34, 4, none, true⟩])
  (.cond (.tmp 33) (.seq (.region [⟨some 34, .build 28 #[], 28, none, true⟩, ⟨none, .store 28 (.tmp 2) (.tmp 34), 0, none, true⟩, ⟨some 3, .assign (.const (.slice none 0 0)), 30, none, true⟩, ⟨some 4, .assign (.const (.int .i64 0)), 3, none, true⟩, ⟨some 5, .assign (.const (.bool false)), 4, none, true⟩])
  .ret) .skip))
  (.seq (.region [⟨some 11, .assign (.const (.slice none 0 0)), 30, none, true⟩])
  (.seq (.seq (.region [⟨some 12, .assign (.const (.int .i64 1)), 3, none, true⟩])
  (.block 0 (.loop [false, false, true, false, false, false, false, true, false, true, false, true, true, false, false, false, false, false, false, false, false, false, false, false, false, false, false, false, false, false, false, false, false, false, false, false, false, false, false, false, false, false, false, false, false, false, false, false, false, false, false, false, false, false, false, false, false, false, false, false, false, false, false] (.seq (.seq (.region [⟨some 35, .move (.tmp 12), 3, none, true⟩, ⟨some 36, .move (.tmp 7), 106, none, true⟩, ⟨some 37, .call (⟨.builtin .len, #[.tmp 36], #[106]⟩), 3, none, true⟩, ⟨some 38, .binOp .lss 3 (.tmp 35) (.tmp 37) 3, 4, none, true⟩])
  (.cond (.tmp 38) .skip (.exit 0)))
  (.seq (.block 1 (.seq (.region [⟨some 42, .move (.tmp 7), 106, none, true⟩, ⟨some 43, .move (.tmp 12), 3, none, true⟩, ⟨some 44, .indexAddr 106 (.tmp 42) (.tmp 43), 0, none, true⟩, ⟨some 45, .load 41 (.tmp 44), 41, none, true⟩, ⟨some 46, .call (⟨.value (.func 88), #[.tmp 45], #[41]⟩), 89, none, true⟩, ⟨some 41, .move (.tmp 46), 89, none, true⟩, ⟨some 47, .extract (.tmp 41) 0, 38, none, true⟩, ⟨some 48, .extract (.tmp 41) 1, 34, none, true⟩, ⟨some 13, .alloc 38, 0, none, true⟩, ⟨none, .store 38 (.tmp 13) (.tmp 47), 0, none, true⟩, ⟨some 14, .assign (.tmp 48), 34, none, true⟩])
  (.seq (.seq (.region [⟨some 49, .move (.tmp 14), 34, none, true⟩, ⟨some 50, .binOp .neq 34 (.tmp 49) (.const (.int .i64 0)) 34, 4, none, true⟩])
  (.cond (.tmp 50) (.seq (.region [⟨some 51, .load 28 (.tmp 9), 28, none, true⟩, ⟨some 52, .move (.tmp 11), 30, none, true⟩, ⟨some 53, .move (.tmp 7), 106, none, true⟩, ⟨some 54, .call (⟨.builtin .len, #[.tmp 53], #[106]⟩), 3, none, true⟩, ⟨some 55, .move (.tmp 12), 3, none, true⟩, ⟨some 56, .binOp .sub 3 (.tmp 54) (.tmp 55) 3, 3, none, true⟩, ⟨none, .store 28 (.tmp 2) (.tmp 51), 0, none, true⟩, ⟨some 3, .assign (.tmp 52), 30, none, true⟩, ⟨some 4, .assign (.tmp 56), 3, none, true⟩, ⟨some 5, .assign (.const (.bool true)), 4, none, true⟩])
  .ret) .skip))
  (.region [⟨some 57, .move (.tmp 11), 30, none, true⟩, ⟨some 58, .load 38 (.tmp 13), 38, none, true⟩, ⟨some 59, .buildSlice 30 1 #[(0, .tmp 58)], 30, none, true⟩, ⟨some 60, .call (⟨.builtin .append, #[.tmp 57, .tmp 59], #[30, 30]⟩), 30, none, true⟩, ⟨some 11, .assign (.tmp 60), 30, none, true⟩]))))
  (.region [⟨some 39, .move (.tmp 12), 3, none, true⟩, ⟨some 40, .binOp .add 3 (.tmp 39) (.const (.int .i64 1)) 3, 3, none, true⟩, ⟨some 12, .assign (.tmp 40), 3, none, true⟩]))))))
  (.seq (.region [⟨some 61, .load 28 (.tmp 9), 28, none, true⟩, ⟨some 62, .move (.tmp 11), 30, none, true⟩, ⟨none, .store 28 (.tmp 2) (.tmp 61), 0, none, true⟩, ⟨some 3, .assign (.tmp 62), 30, none, true⟩, ⟨some 4, .assign (.const (.int .i64 0)), 3, none, true⟩, ⟨some 5, .assign (.const (.bool true)), 4, none, true⟩])
  .ret)))))))
noncomputable def f62 : AFn := ⟨63, [.cell 2 28, .tmp 3, .tmp 4, .tmp 5], b62⟩
/-- (*novation/tape.Tape).Copy -/
noncomputable def b63 : AC :=
  .seq (.region [⟨some 2, .assign (.const (.pointer none)), 32, none, true⟩])
  (.seq (.seq (.region [⟨some 4, .move (.tmp 0), 32, none, true⟩, ⟨some 5, .binOp .eql 32 (.tmp 4) (.const (.pointer none)) 32, 4, none, true⟩])
  (.cond (.tmp 5) (.seq (.region [⟨some 2, .assign (.const (.pointer none)), 32, none, true⟩])
  .ret) .skip))
  (.seq (.region [⟨some 6, .move (.tmp 0), 32, none, true⟩, ⟨some 7, .nilCheck (.tmp 6), 0, none, true⟩, ⟨some 8, .load 81 (.tmp 7), 81, none, true⟩, ⟨some 3, .alloc 81, 0, none, true⟩, ⟨none, .store 81 (.tmp 3) (.tmp 8), 0, none, true⟩])
  (.seq (.region [⟨some 9, .move (.tmp 0), 32, none, true⟩, ⟨some 10, .nilCheck (.tmp 9), 0, none, true⟩, ⟨some 11, .fieldAddr 81 (.tmp 10) 0, 0, none, true⟩, ⟨some 12, .load 41 (.tmp 11), 41, none, true⟩, ⟨some 13, .call (⟨.value (.func 46), #[.tmp 12], #[41]⟩), 41, none, true⟩, ⟨some 14, .fieldAddr 81 (.tmp 3) 0, 0, none, true⟩, ⟨none, .store 41 (.tmp 14) (.tmp 13), 0, none, true⟩])
  (.seq (.region [⟨some 2, .assign (.tmp 3), 32, none, true⟩])
  .ret))))
noncomputable def f63 : AFn := ⟨15, [.tmp 2], b63⟩
/-- (*novation/novationref4.Tape).Arm -/
noncomputable def b64 : AC :=
  .seq (.region [⟨some 6, .move (.tmp 0), 57, none, true⟩, ⟨some 7, .nilCheck (.tmp 6), 0, none, true⟩, ⟨some 8, .fieldAddr 94 (.tmp 7) 5, 0, none, true⟩, ⟨some 9, .load 4 (.tmp 8), 4, none, true⟩, ⟨some 10, .unOp .not 4 (.tmp 9), 4, none, true⟩])
  (.cond (.tmp 10) (.region [⟨some 11, .move (.tmp 0), 57, none, true⟩, ⟨some 12, .move (.tmp 0), 57, none, true⟩, ⟨some 13, .move (.tmp 0), 57, none, true⟩, ⟨some 14, .move (.tmp 1), 3, none, true⟩, ⟨some 15, .binOp .geq 3 (.tmp 14) (.const (.int .i64 0)) 3, 4, none, true⟩, ⟨some 16, .move (.tmp 1), 3, none, true⟩, ⟨some 17, .call (⟨.builtin .max, #[.tmp 16, .const (.int .i64 0)], #[3, 3]⟩), 3, none, true⟩, ⟨some 18, .move (.tmp 2), 3, none, true⟩, ⟨some 19, .nilCheck (.tmp 11), 0, none, true⟩, ⟨some 20, .fieldAddr 94 (.tmp 19) 2, 0, none, true⟩, ⟨none, .store 4 (.tmp 20) (.tmp 15), 0, none, true⟩, ⟨some 21, .nilCheck (.tmp 12), 0, none, true⟩, ⟨some 22, .fieldAddr 94 (.tmp 21) 3, 0, none, true⟩, ⟨none, .store 3 (.tmp 22) (.tmp 17), 0, none, true⟩, ⟨some 23, .nilCheck (.tmp 13), 0, none, true⟩, ⟨some 24, .fieldAddr 94 (.tmp 23) 4, 0, none, true⟩, ⟨none, .store 3 (.tmp 24) (.tmp 18), 0, none, true⟩]) .skip)
noncomputable def f64 : AFn := ⟨25, [], b64⟩
/-- (*novation/novationref4.Tape).Wake -/
noncomputable def b65 : AC :=
  .region [⟨some 2, .move (.tmp 0), 57, none, true⟩, ⟨some 3, .move (.tmp 0), 57, none, true⟩, ⟨some 4, .nilCheck (.tmp 2), 0, none, true⟩, ⟨some 5, .fieldAddr 94 (.tmp 4) 5, 0, none, true⟩, ⟨none, .store 4 (.tmp 5) (.const (.bool false)), 0, none, true⟩, ⟨some 6, .nilCheck (.tmp 3), 0, none, true⟩, ⟨some 7, .fieldAddr 94 (.tmp 6) 2, 0, none, true⟩, ⟨none, .store 4 (.tmp 7) (.const (.bool false)), 0, none, true⟩]
noncomputable def f65 : AFn := ⟨8, [], b65⟩
/-- novation/novationref4.StartJournal -/
noncomputable def b66 : AC :=
  .seq (.region [⟨some 3, .box 28 (.tmp 1), 0, none, true⟩, ⟨some 4, .assign (.const (.int .i64 0)), 34, none, true⟩])
  (.seq (.region [⟨some 10, .load 28 (.tmp 3), 28, none, true⟩, ⟨some 11, .call (⟨.value (.func 27), #[.tmp 10], #[28]⟩), 42, none, true⟩, ⟨some 9, .move (.tmp 11), 42, none, true⟩, ⟨some 12, .extract (.tmp 9) 0, 41, none, true⟩, ⟨some 13, .extract (.tmp 9) 1, 34, none, true⟩, ⟨some 5, .assign (.tmp 12), 41, none, true⟩, ⟨some 6, .assign (.tmp 13), 34, none, true⟩])
  (.seq (.seq (.region [⟨some 14, .move (.tmp 6), 34, none, true⟩, ⟨some 15, .binOp .neq 34 (.tmp 14) (.const (.int .i64 0)) 34, 4, none, true⟩])
  (.cond (.tmp 15) (.seq (.region [⟨some 16, .move (.tmp 6), 34, none, true⟩, ⟨some 4, .assign (.tmp 16), 34, none, true⟩])
  .ret) .skip))
  (.seq (.seq (.region [⟨some 17, .move (.tmp 0), 57, none, true⟩, ⟨some 18, .nilCheck (.tmp 17), 0, none, true⟩, ⟨some 19, .fieldAddr 94 (.tmp 18) 5, 0, none, true⟩, ⟨some 20, .load 4 (.tmp 19), 4, none, true⟩])
  (.cond (.tmp 20) (.seq (.region [⟨some 4, .assign (.const (.int .i64 15)), 34, none, true⟩])
  .ret) .skip))
  (.seq (.seq (.region [⟨some 21, .move (.tmp 0), 57, none, true⟩, ⟨some 22, .nilCheck (.tmp 21), 0, none, true⟩, ⟨some 23, .fieldAddr 94 (.tmp 22) 0, 0, none, true⟩, ⟨some 24, .load 41 (.tmp 23), 41, none, true⟩, ⟨some 25, .call (⟨.builtin .len, #[.tmp 24], #[41]⟩), 3, none, true⟩, ⟨some 26, .binOp .gtr 3 (.tmp 25) (.const (.int .i64 0)) 3, 4, none, true⟩])
  (.cond (.tmp 26) (.seq (.region [⟨some 4, .assign (.const (.int .i64 4)), 34, none, true⟩])
  .ret) .skip))
  (.seq (.region [⟨some 28, .move (.tmp 5), 41, none, true⟩, ⟨some 29, .call (⟨.value (.func 28), #[.tmp 28], #[41]⟩), 42, none, true⟩, ⟨some 27, .move (.tmp 29), 42, none, true⟩, ⟨some 30, .extract (.tmp 27) 0, 41, none, true⟩, ⟨some 31, .extract (.tmp 27) 1, 34, none, true⟩, ⟨some 7, .assign (.tmp 30), 41, none, true⟩, ⟨some 8, .assign (.tmp 31), 34, none, true⟩])
  (.seq (.region [⟨some 32, .move (.tmp 0), 57, none, true⟩, ⟨some 33, .move (.tmp 7), 41, none, true⟩, ⟨some 34, .call (⟨.value (.func 33), #[.tmp 32, .tmp 33], #[57, 41]⟩), 34, none, true⟩, ⟨some 4, .assign (.tmp 34), 34, none, true⟩])
  .ret))))))
noncomputable def f66 : AFn := ⟨35, [.tmp 4], b66⟩
/-- novation/novationref4.AddJournal -/
noncomputable def b67 : AC :=
  .seq (.region [⟨some 3, .box 38 (.tmp 1), 0, none, true⟩, ⟨some 4, .assign (.const (.int .i64 0)), 34, none, true⟩])
  (.seq (.region [⟨some 10, .load 38 (.tmp 3), 38, none, true⟩, ⟨some 11, .call (⟨.value (.func 30), #[.tmp 10], #[38]⟩), 42, none, true⟩, ⟨some 9, .move (.tmp 11), 42, none, true⟩, ⟨some 12, .extract (.tmp 9) 0, 41, none, true⟩, ⟨some 13, .extract (.tmp 9) 1, 34, none, true⟩, ⟨some 5, .assign (.tmp 12), 41, none, true⟩, ⟨some 6, .assign (.tmp 13), 34, none, true⟩])
  (.seq (.seq (.region [⟨some 14, .move (.tmp 6), 34, none, true⟩, ⟨some 15, .binOp .neq 34 (.tmp 14) (.const (.int .i64 0)) 34, 4, none, true⟩])
  (.cond (.tmp 15) (.seq (.region [⟨some 16, .move (.tmp 6), 34, none, true⟩, ⟨some 4, .assign (.tmp 16), 34, none, true⟩])
  .ret) .skip))
  (.seq (.region [⟨some 18, .move (.tmp 5), 41, none, true⟩, ⟨some 19, .call (⟨.value (.func 28), #[.tmp 18], #[41]⟩), 42, none, true⟩, ⟨some 17, .move (.tmp 19), 42, none, true⟩, ⟨some 20, .extract (.tmp 17) 0, 41, none, true⟩, ⟨some 21, .extract (.tmp 17) 1, 34, none, true⟩, ⟨some 7, .assign (.tmp 20), 41, none, true⟩, ⟨some 8, .assign (.tmp 21), 34, none, true⟩])
  (.seq (.region [⟨some 22, .move (.tmp 0), 57, none, true⟩, ⟨some 23, .move (.tmp 7), 41, none, true⟩, ⟨some 24, .call (⟨.value (.func 33), #[.tmp 22, .tmp 23], #[57, 41]⟩), 34, none, true⟩, ⟨some 4, .assign (.tmp 24), 34, none, true⟩])
  .ret))))
noncomputable def f67 : AFn := ⟨25, [.tmp 4], b67⟩
/-- novation/plan.Right -/
noncomputable def b68 : AC :=
  .seq (.region [⟨some 1, .box 28 (.tmp 0), 0, none, true⟩, ⟨some 2, .assign (.const (.bool false)), 4, none, true⟩])
  (.seq (.seq (.region [⟨some 5, .fieldAddr 28 (.tmp 1) 0, 0, none, true⟩, ⟨some 6, .load 26 (.tmp 5), 26, none, true⟩, ⟨some 7, .call (⟨.builtin .len, #[.tmp 6], #[26]⟩), 3, none, true⟩, ⟨some 8, .call (⟨.value (.func 78), #[.tmp 7, .const (.int .i64 1), .const (.int .i64 6)], #[2, 2, 2]⟩), 4, none, true⟩, ⟨some 9, .unOp .not 4 (.tmp 8), 4, none, true⟩])
  (.cond (.tmp 9) (.seq (.region [⟨some 2, .assign (.const (.bool false)), 4, none, true⟩])
  .ret) .skip))
  (.seq (.seq (.region [⟨some 10, .fieldAddr 28 (.tmp 1) 0, 0, none, true⟩, ⟨some 11, .load 26 (.tmp 10), 26, none, true⟩, ⟨some 12, .call (⟨.builtin .len, #[.tmp 11], #[26]⟩), 3, none, true⟩, ⟨some 13, .move (.const (.int .i64 0)), 3, none, true⟩])
  (.block 0 (.loop [false, true, false, false, false, false, false, false, false, false, false, true, true, true, false, false, false, false, false, false, false, false, false, false, false, false, false, false, false, false, false, false, false, false, false, false, false, false, false, false, false, false, false, false, false, false, false, false, false, false, false, false, false, false, false, false, false, false, false, false, false, false, false, false, false, false, false, false] (.seq (.region [⟨some 14, .binOp .lss 3 (.tmp 13) (.tmp 12) 3, 0, none, true⟩])
  (.seq (.cond (.tmp 14) .skip (.exit 0))
  (.seq (.block 1 (.seq (.region [⟨some 15, .indexAddr 26 (.tmp 11) (.tmp 13), 0, none, true⟩, ⟨some 16, .load 78 (.tmp 15), 78, none, true⟩, ⟨some 4, .alloc 78, 0, none, true⟩, ⟨none, .store 78 (.tmp 4) (.tmp 16), 0, none, true⟩])
  (.seq (.region [⟨some 17, .fieldAddr 78 (.tmp 4) 0, 0, none, true⟩, ⟨some 18, .load 3 (.tmp 17), 3, none, true⟩, ⟨some 19, .call (⟨.value (.func 78), #[.tmp 18, .const (.int .i64 0), .const (.int .i64 3)], #[2, 2, 2]⟩), 4, none, true⟩, ⟨some 20, .unOp .not 4 (.tmp 19), 4, none, true⟩, ⟨some 21, .move (.tmp 20), 4, none, true⟩, ⟨some 22, .fieldAddr 78 (.tmp 4) 1, 0, some (some 21), false⟩, ⟨some 23, .load 2 (.tmp 22), 2, some (some 21), false⟩, ⟨some 24, .call (⟨.value (.func 78), #[.tmp 23, .const (.int .i64 1), .const (.int .i64 1000000000000)], #[2, 2, 2]⟩), 4, some (some 21), false⟩, ⟨some 25, .unOp .not 4 (.tmp 24), 4, some (some 21), false⟩, ⟨some 26, .pick (.tmp 21) (.const (.bool true)) (.tmp 25), 4, none, true⟩, ⟨some 27, .move (.tmp 26), 4, none, true⟩, ⟨some 28, .fieldAddr 78 (.tmp 4) 2, 0, some (some 27), false⟩, ⟨some 29, .load 2 (.tmp 28), 2, some (some 27), false⟩, ⟨some 30, .call (⟨.value (.func 78), #[.tmp 29, .const (.int .i64 0), .const (.int .i64 1000000000)], #[2, 2, 2]⟩), 4, some (some 27), false⟩, ⟨some 31, .unOp .not 4 (.tmp 30), 4, some (some 27), false⟩, ⟨some 32, .pick (.tmp 27) (.const (.bool true)) (.tmp 31), 4, none, true⟩, ⟨some 33, .move (.tmp 32), 4, none, true⟩, ⟨some 34, .fieldAddr 78 (.tmp 4) 3, 0, some (some 33), false⟩, ⟨some 35, .load 2 (.tmp 34), 2, some (some 33), false⟩, ⟨some 36, .call (⟨.value (.func 78), #[.tmp 35, .const (.int .i64 0), .const (.int .i64 1000000000)], #[2, 2, 2]⟩), 4, some (some 33), false⟩, ⟨some 37, .unOp .not 4 (.tmp 36), 4, some (some 33), false⟩, ⟨some 38, .pick (.tmp 33) (.const (.bool true)) (.tmp 37), 4, none, true⟩])
  (.cond (.tmp 38) (.seq (.region [⟨some 2, .assign (.const (.bool false)), 4, none, true⟩])
  .ret) .skip))))
  (.region [⟨some 39, .binOp .add 3 (.tmp 13) (.const (.int .i64 1)) 3, 3, none, true⟩, ⟨some 13, .move (.tmp 39), 3, none, true⟩])))))))
  (.seq (.region [⟨some 40, .fieldAddr 28 (.tmp 1) 1, 0, none, true⟩, ⟨some 41, .load 2 (.tmp 40), 2, none, true⟩, ⟨some 42, .binOp .geq 2 (.tmp 41) (.const (.int .i64 0)) 2, 4, none, true⟩, ⟨some 43, .move (.tmp 42), 4, none, true⟩, ⟨some 44, .fieldAddr 28 (.tmp 1) 2, 0, some (some 43), true⟩, ⟨some 45, .load 3 (.tmp 44), 3, some (some 43), true⟩, ⟨some 46, .call (⟨.value (.func 78), #[.tmp 45, .const (.int .i64 0), .const (.int .i64 4)], #[2, 2, 2]⟩), 4, some (some 43), true⟩, ⟨some 47, .pick (.tmp 43) (.tmp 46) (.const (.bool false)), 4, none, true⟩, ⟨some 48, .move (.tmp 47), 4, none, true⟩, ⟨some 49, .fieldAddr 28 (.tmp 1) 3, 0, some (some 48), true⟩, ⟨some 50, .load 2 (.tmp 49), 2, some (some 48), true⟩, ⟨some 51, .call (⟨.value (.func 78), #[.tmp 50, .const (.int .i64 0), .const (.int .i64 1000000)], #[2, 2, 2]⟩), 4, some (some 48), true⟩, ⟨some 52, .pick (.tmp 48) (.tmp 51) (.const (.bool false)), 4, none, true⟩, ⟨some 53, .move (.tmp 52), 4, none, true⟩, ⟨some 54, .fieldAddr 28 (.tmp 1) 4, 0, some (some 53), true⟩, ⟨some 55, .load 2 (.tmp 54), 2, some (some 53), true⟩, ⟨some 56, .call (⟨.value (.func 78), #[.tmp 55, .const (.int .i64 0), .const (.int .i64 1000000)], #[2, 2, 2]⟩), 4, some (some 53), true⟩, ⟨some 57, .pick (.tmp 53) (.tmp 56) (.const (.bool false)), 4, none, true⟩, ⟨some 58, .move (.tmp 57), 4, none, true⟩, ⟨some 59, .fieldAddr 28 (.tmp 1) 5, 0, some (some 58), true⟩, ⟨some 60, .load 2 (.tmp 59), 2, some (some 58), true⟩, ⟨some 61, .call (⟨.value (.func 78), #[.tmp 60, .const (.int .i64 1), .const (.int .i64 4611686018427387904)], #[2, 2, 2]⟩), 4, some (some 58), true⟩, ⟨some 62, .pick (.tmp 58) (.tmp 61) (.const (.bool false)), 4, none, true⟩, ⟨some 63, .move (.tmp 62), 4, none, true⟩, ⟨some 64, .fieldAddr 28 (.tmp 1) 6, 0, some (some 63), true⟩, ⟨some 65, .load 2 (.tmp 64), 2, some (some 63), true⟩, ⟨some 66, .binOp .geq 2 (.tmp 65) (.const (.int .i64 0)) 2, 4, some (some 63), true⟩, ⟨some 67, .pick (.tmp 63) (.tmp 66) (.const (.bool false)), 4, none, true⟩, ⟨some 2, .assign (.tmp 67), 4, none, true⟩])
  .ret)))
noncomputable def f68 : AFn := ⟨68, [.tmp 2], b68⟩
/-- novation/event.Number -/
noncomputable def b69 : AC :=
  .seq (.region [⟨some 4, .assign (.const (.slice none 0 0)), 41, none, true⟩])
  (.seq (.region [⟨some 7, .move (.tmp 0), 41, none, true⟩, ⟨some 8, .call (⟨.builtin .len, #[.tmp 7], #[41]⟩), 3, none, true⟩, ⟨some 9, .binOp .add 3 (.tmp 8) (.const (.int .i64 10)) 3, 3, none, true⟩, ⟨some 10, .makeSlice 41 (.const (.int .i64 0)) (.tmp 9), 41, none, true⟩, ⟨some 11, .move (.tmp 0), 41, none, true⟩, ⟨some 12, .call (⟨.builtin .append, #[.tmp 10, .tmp 11], #[41, 41]⟩), 41, none, true⟩, ⟨some 5, .assign (.tmp 12), 41, none, true⟩])
  (.seq (.region [⟨some 13, .move (.tmp 1), 2, none, true⟩, ⟨some 14, .convert 2 70 (.tmp 13), 70, none, true⟩, ⟨some 15, .binOp .shl 70 (.tmp 14) (.const (.int .u64 1)) 100, 70, none, true⟩, ⟨some 16, .move (.tmp 1), 2, none, true⟩, ⟨some 17, .binOp .shr 2 (.tmp 16) (.const (.int .u64 63)) 100, 2, none, true⟩, ⟨some 18, .convert 2 70 (.tmp 17), 70, none, true⟩, ⟨some 19, .binOp .xor 70 (.tmp 15) (.tmp 18) 70, 70, none, true⟩, ⟨some 6, .assign (.tmp 19), 70, none, true⟩])
  (.seq (.block 0 (.loop [false, false, false, false, false, true, true, false, false, false, false, false, false, false, false, false, false, false, false, false, false, false, false, false, false, false, false, false, false, false, false, false, false, false, false] (.seq (.seq (.region [⟨some 20, .move (.tmp 6), 70, none, true⟩, ⟨some 21, .binOp .gtr 70 (.tmp 20) (.const (.int .u64 127)) 70, 4, none, true⟩])
  (.cond (.tmp 21) .skip (.exit 0)))
  (.block 1 (.region [⟨some 22, .move (.tmp 5), 41, none, true⟩, ⟨some 23, .move (.tmp 6), 70, none, true⟩, ⟨some 24, .convert 70 5 (.tmp 23), 5, none, true⟩, ⟨some 25, .binOp .or 5 (.tmp 24) (.const (.int .u8 128)) 5, 5, none, true⟩, ⟨some 26, .buildSlice 41 1 #[(0, .tmp 25)], 41, none, true⟩, ⟨some 27, .call (⟨.builtin .append, #[.tmp 22, .tmp 26], #[41, 41]⟩), 41, none, true⟩, ⟨some 28, .move (.tmp 6), 70, none, true⟩, ⟨some 29, .binOp .shr 70 (.tmp 28) (.const (.int .u64 7)) 100, 70, none, true⟩, ⟨some 5, .assign (.tmp 27), 41, none, true⟩, ⟨some 6, .assign (.tmp 29), 70, none, true⟩])))))
  (.seq (.region [⟨some 30, .move (.tmp 5), 41, none, true⟩, ⟨some 31, .move (.tmp 6), 70, none, true⟩, ⟨some 32, .convert 70 5 (.tmp 31), 5, none, true⟩, ⟨some 33, .buildSlice 41 1 #[(0, .tmp 32)], 41, none, true⟩, ⟨some 34, .call (⟨.builtin .append, #[.tmp 30, .tmp 33], #[41, 41]⟩), 41, none, true⟩, ⟨some 4, .assign (.tmp 34), 41, none, true⟩])
  .ret))))
noncomputable def f69 : AFn := ⟨35, [.tmp 4], b69⟩
/-- novation/frame.Put -/
noncomputable def b70 : AC :=
  .seq (.region [⟨some 2, .assign (.const (.slice none 0 0)), 41, none, true⟩, ⟨some 3, .assign (.const (.int .i64 0)), 34, none, true⟩])
  (.seq (.seq (.region [⟨some 5, .move (.tmp 0), 41, none, true⟩, ⟨some 6, .call (⟨.builtin .len, #[.tmp 5], #[41]⟩), 3, none, true⟩, ⟨some 7, .binOp .gtr 3 (.tmp 6) (.const (.int .i64 400)) 3, 4, none, true⟩])
  (.cond (.tmp 7) (.seq (.region [⟨some 2, .assign (.const (.slice none 0 0)), 41, none, true⟩, ⟨some 3, .assign (.const (.int .i64 1)), 34, none, true⟩])
  .ret) .skip))
  (.seq (.region [⟨some 8, .move (.tmp 0), 41, none, true⟩, ⟨some 9, .call (⟨.builtin .len, #[.tmp 8], #[41]⟩), 3, none, true⟩, ⟨some 10, .binOp .add 3 (.tmp 9) (.const (.int .i64 6)) 3, 3, none, true⟩, ⟨some 11, .makeSlice 41 (.const (.int .i64 0)) (.tmp 10), 41, none, true⟩, ⟨some 4, .assign (.tmp 11), 41, none, true⟩])
  (.seq (.region [⟨some 12, .move (.tmp 4), 41, none, true⟩, ⟨some 13, .move (.tmp 0), 41, none, true⟩, ⟨some 14, .call (⟨.builtin .len, #[.tmp 13], #[41]⟩), 3, none, true⟩, ⟨some 15, .binOp .shr 3 (.tmp 14) (.const (.int .u64 8)) 100, 3, none, true⟩, ⟨some 16, .convert 3 5 (.tmp 15), 5, none, true⟩, ⟨some 17, .move (.tmp 0), 41, none, true⟩, ⟨some 18, .call (⟨.builtin .len, #[.tmp 17], #[41]⟩), 3, none, true⟩, ⟨some 19, .convert 3 5 (.tmp 18), 5, none, true⟩, ⟨some 20, .buildSlice 41 2 #[(0, .tmp 16), (1, .tmp 19)], 41, none, true⟩, ⟨some 21, .call (⟨.builtin .append, #[.tmp 12, .tmp 20], #[41, 41]⟩), 41, none, true⟩, ⟨some 4, .assign (.tmp 21), 41, none, true⟩])
  (.seq (.region [⟨some 22, .move (.tmp 4), 41, none, true⟩, ⟨some 23, .move (.tmp 0), 41, none, true⟩, ⟨some 24, .call (⟨.builtin .append, #[.tmp 22, .tmp 23], #[41, 41]⟩), 41, none, true⟩, ⟨some 4, .assign (.tmp 24), 41, none, true⟩])
  (.seq (.region [⟨some 25, .move (.tmp 4), 41, none, true⟩, ⟨some 26, .move (.tmp 4), 41, none, true⟩, ⟨some 27, .call (⟨.value (.func 90), #[.tmp 26], #[41]⟩), 98, none, true⟩, ⟨some 28, .call (⟨.value (.func 89), #[.tmp 27], #[98]⟩), 41, none, true⟩, ⟨some 29, .call (⟨.builtin .append, #[.tmp 25, .tmp 28], #[41, 41]⟩), 41, none, true⟩, ⟨some 2, .assign (.tmp 29), 41, none, true⟩, ⟨some 3, .assign (.const (.int .i64 0)), 34, none, true⟩])
  .ret)))))
noncomputable def f70 : AFn := ⟨30, [.tmp 2, .tmp 3], b70⟩
/-- novation/event.Right -/
noncomputable def b71 : AC :=
  .seq (.region [⟨some 1, .box 38 (.tmp 0), 0, none, true⟩, ⟨some 2, .assign (.const (.bool false)), 4, none, true⟩])
  (.seq (.seq (.region [⟨some 9, .fieldAddr 38 (.tmp 1) 0, 0, none, true⟩, ⟨some 10, .load 3 (.tmp 9), 3, none, true⟩, ⟨some 11, .binOp .lss 3 (.tmp 10) (.const (.int .i64 1)) 3, 4, none, true⟩, ⟨some 12, .move (.tmp 11), 4, none, true⟩, ⟨some 13, .fieldAddr 38 (.tmp 1) 0, 0, some (some 12), false⟩, ⟨some 14, .load 3 (.tmp 13), 3, some (some 12), false⟩, ⟨some 15, .binOp .gtr 3 (.tmp 14) (.const (.int .i64 22)) 3, 4, some (some 12), false⟩, ⟨some 16, .pick (.tmp 12) (.const (.bool true)) (.tmp 15), 4, none, true⟩])
  (.cond (.tmp 16) (.seq (.region [⟨some 2, .assign (.const (.bool false)), 4, none, true⟩])
  .ret) .skip))
  (.seq (.region [⟨some 17, .fieldAddr 38 (.tmp 1) 0, 0, none, true⟩, ⟨some 18, .load 3 (.tmp 17), 3, none, true⟩, ⟨some 19, .build 38 #[(0, .tmp 18)], 38, none, true⟩, ⟨some 3, .alloc 38, 0, none, true⟩, ⟨none, .store 38 (.tmp 3) (.tmp 19), 0, none, true⟩])
  (.seq (.seq (.region [⟨some 20, .fieldAddr 38 (.tmp 1) 0, 0, none, true⟩, ⟨some 21, .load 3 (.tmp 20), 3, none, true⟩, ⟨some 22, .call (⟨.value (.func 72), #[.tmp 21], #[3]⟩), 9, none, true⟩, ⟨some 23, .convert 9 41 (.tmp 22), 41, none, true⟩, ⟨some 24, .call (⟨.builtin .len, #[.tmp 23], #[41]⟩), 3, none, true⟩, ⟨some 25, .move (.const (.int .i64 0)), 3, none, true⟩])
  (.block 0 (.loop [false, true, false, true, false, false, false, false, false, false, false, false, false, false, false, false, false, false, false, false, false, false, false, true, true, true, false, false, false, false, false, false, false, false, false, false, false, false, false, false, false, false, false, false, false, false, false, false, false, false, false, false, false, false, false] (.seq (.region [⟨some 26, .binOp .lss 3 (.tmp 25) (.tmp 24) 3, 0, none, true⟩])
  (.seq (.cond (.tmp 26) .skip (.exit 0))
  (.seq (.block 1 (.seq (.region [⟨some 27, .indexAddr 41 (.tmp 23) (.tmp 25), 0, none, true⟩, ⟨some 28, .load 5 (.tmp 27), 5, none, true⟩, ⟨some 5, .assign (.tmp 28), 5, none, true⟩])
  (.seq (.region [⟨some 29, .load 38 (.tmp 1), 38, none, true⟩, ⟨some 30, .move (.tmp 5), 5, none, true⟩, ⟨some 31, .call (⟨.value (.func 73), #[.tmp 29, .tmp 30], #[38, 5]⟩), 2, none, true⟩, ⟨some 6, .assign (.tmp 31), 2, none, true⟩])
  (.seq (.seq (.region [⟨some 33, .fieldAddr 38 (.tmp 1) 0, 0, none, true⟩, ⟨some 34, .load 3 (.tmp 33), 3, none, true⟩, ⟨some 35, .move (.tmp 5), 5, none, true⟩, ⟨some 36, .call (⟨.value (.func 91), #[.tmp 34, .tmp 35], #[3, 5]⟩), 125, none, true⟩, ⟨some 32, .move (.tmp 36), 125, none, true⟩, ⟨some 37, .extract (.tmp 32) 0, 2, none, true⟩, ⟨some 38, .extract (.tmp 32) 1, 2, none, true⟩, ⟨some 7, .assign (.tmp 37), 2, none, true⟩, ⟨some 8, .assign (.tmp 38), 2, none, true⟩])
  (.seq (.region [⟨some 39, .move (.tmp 6), 2, none, true⟩, ⟨some 40, .move (.tmp 7), 2, none, true⟩, ⟨some 41, .binOp .lss 2 (.tmp 39) (.tmp 40) 2, 4, none, true⟩, ⟨some 42, .move (.tmp 41), 4, none, true⟩, ⟨some 43, .move (.tmp 6), 2, some (some 42), false⟩, ⟨some 44, .move (.tmp 8), 2, some (some 42), false⟩, ⟨some 45, .binOp .gtr 2 (.tmp 43) (.tmp 44) 2, 4, some (some 42), false⟩, ⟨some 46, .pick (.tmp 42) (.const (.bool true)) (.tmp 45), 4, none, true⟩])
  (.cond (.tmp 46) (.seq (.region [⟨some 2, .assign (.const (.bool false)), 4, none, true⟩])
  .ret) .skip)))
  (.region [⟨some 47, .load 38 (.tmp 3), 38, none, true⟩, ⟨some 48, .move (.tmp 5), 5, none, true⟩, ⟨some 49, .move (.tmp 6), 2, none, true⟩, ⟨some 50, .call (⟨.value (.func 81), #[.tmp 47, .tmp 48, .tmp 49], #[38, 5, 2]⟩), 38, none, true⟩, ⟨none, .store 38 (.tmp 3) (.tmp 50), 0, none, true⟩])))))
  (.region [⟨some 51, .binOp .add 3 (.tmp 25) (.const (.int .i64 1)) 3, 3, none, true⟩, ⟨some 25, .move (.tmp 51), 3, none, true⟩])))))))
  (.seq (.region [⟨some 52, .load 38 (.tmp 3), 38, none, true⟩, ⟨some 53, .load 38 (.tmp 1), 38, none, true⟩, ⟨some 54, .binOp .eql 38 (.tmp 52) (.tmp 53) 38, 4, none, true⟩, ⟨some 2, .assign (.tmp 54), 4, none, true⟩])
  .ret))))
noncomputable def f71 : AFn := ⟨55, [.tmp 2], b71⟩
/-- novation/event.Fields -/
noncomputable def b72 : AC :=
  .seq (.region [⟨some 2, .assign (.const (.string (⟨#[]⟩))), 9, none, true⟩])
  (.seq (.seq (.region [⟨some 3, .move (.tmp 0), 3, none, true⟩])
  (.block 0 (.seq (.seq (.region [⟨some 5, .binOp .eql 3 (.tmp 3) (.const (.int .i64 1)) 3, 4, none, true⟩, ⟨some 4, .assign (.tmp 5), 4, none, true⟩])
  (.cond (.tmp 4) .skip (.seq (.region [⟨some 6, .binOp .eql 3 (.tmp 3) (.const (.int .i64 11)) 3, 4, none, true⟩, ⟨some 4, .assign (.tmp 6), 4, none, true⟩])
  (.cond (.tmp 4) .skip (.seq (.region [⟨some 7, .binOp .eql 3 (.tmp 3) (.const (.int .i64 12)) 3, 4, none, true⟩, ⟨some 4, .assign (.tmp 7), 4, none, true⟩])
  (.cond (.tmp 4) .skip (.region [⟨some 8, .binOp .eql 3 (.tmp 3) (.const (.int .i64 13)) 3, 4, none, true⟩, ⟨some 4, .assign (.tmp 8), 4, none, true⟩])))))))
  (.cond (.tmp 4) (.seq (.region [⟨some 2, .assign (.const (.string (⟨#[77]⟩))), 9, none, true⟩])
  .ret) (.seq (.region [⟨some 10, .binOp .eql 3 (.tmp 3) (.const (.int .i64 2)) 3, 4, none, true⟩, ⟨some 9, .assign (.tmp 10), 4, none, true⟩])
  (.cond (.tmp 9) (.seq (.region [⟨some 2, .assign (.const (.string (⟨#[77, 65, 83]⟩))), 9, none, true⟩])
  .ret) (.seq (.seq (.region [⟨some 12, .binOp .eql 3 (.tmp 3) (.const (.int .i64 3)) 3, 4, none, true⟩, ⟨some 11, .assign (.tmp 12), 4, none, true⟩])
  (.cond (.tmp 11) .skip (.seq (.region [⟨some 13, .binOp .eql 3 (.tmp 3) (.const (.int .i64 4)) 3, 4, none, true⟩, ⟨some 11, .assign (.tmp 13), 4, none, true⟩])
  (.cond (.tmp 11) .skip (.region [⟨some 14, .binOp .eql 3 (.tmp 3) (.const (.int .i64 6)) 3, 4, none, true⟩, ⟨some 11, .assign (.tmp 14), 4, none, true⟩])))))
  (.cond (.tmp 11) (.seq (.region [⟨some 2, .assign (.const (.string (⟨#[65, 81]⟩))), 9, none, true⟩])
  .ret) (.seq (.seq (.region [⟨some 16, .binOp .eql 3 (.tmp 3) (.const (.int .i64 5)) 3, 4, none, true⟩, ⟨some 15, .assign (.tmp 16), 4, none, true⟩])
  (.cond (.tmp 15) .skip (.region [⟨some 17, .binOp .eql 3 (.tmp 3) (.const (.int .i64 22)) 3, 4, none, true⟩, ⟨some 15, .assign (.tmp 17), 4, none, true⟩])))
  (.cond (.tmp 15) (.seq (.region [⟨some 2, .assign (.const (.string (⟨#[77, 81]⟩))), 9, none, true⟩])
  .ret) (.seq (.region [⟨some 19, .binOp .eql 3 (.tmp 3) (.const (.int .i64 7)) 3, 4, none, true⟩, ⟨some 18, .assign (.tmp 19), 4, none, true⟩])
  (.cond (.tmp 18) (.seq (.region [⟨some 2, .assign (.const (.string (⟨#[65, 73, 83, 81, 80]⟩))), 9, none, true⟩])
  .ret) (.seq (.region [⟨some 21, .binOp .eql 3 (.tmp 3) (.const (.int .i64 8)) 3, 4, none, true⟩, ⟨some 20, .assign (.tmp 21), 4, none, true⟩])
  (.cond (.tmp 20) (.seq (.region [⟨some 2, .assign (.const (.string (⟨#[65, 68]⟩))), 9, none, true⟩])
  .ret) (.seq (.region [⟨some 23, .binOp .eql 3 (.tmp 3) (.const (.int .i64 9)) 3, 4, none, true⟩, ⟨some 22, .assign (.tmp 23), 4, none, true⟩])
  (.cond (.tmp 22) (.seq (.region [⟨some 2, .assign (.const (.string (⟨#[73, 80]⟩))), 9, none, true⟩])
  .ret) (.seq (.region [⟨some 25, .binOp .eql 3 (.tmp 3) (.const (.int .i64 10)) 3, 4, none, true⟩, ⟨some 24, .assign (.tmp 25), 4, none, true⟩])
  (.cond (.tmp 24) (.seq (.region [⟨some 2, .assign (.const (.string (⟨#[81]⟩))), 9, none, true⟩])
  .ret) (.seq (.region [⟨some 27, .binOp .eql 3 (.tmp 3) (.const (.int .i64 14)) 3, 4, none, true⟩, ⟨some 26, .assign (.tmp 27), 4, none, true⟩])
  (.cond (.tmp 26) (.seq (.region [⟨some 2, .assign (.const (.string (⟨#[77, 65]⟩))), 9, none, true⟩])
  .ret) (.seq (.region [⟨some 29, .binOp .eql 3 (.tmp 3) (.const (.int .i64 17)) 3, 4, none, true⟩, ⟨some 28, .assign (.tmp 29), 4, none, true⟩])
  (.cond (.tmp 28) (.seq (.region [⟨some 2, .assign (.const (.string (⟨#[65, 68, 81, 80]⟩))), 9, none, true⟩])
  .ret) (.seq (.region [⟨some 31, .binOp .eql 3 (.tmp 3) (.const (.int .i64 19)) 3, 4, none, true⟩, ⟨some 30, .assign (.tmp 31), 4, none, true⟩])
  (.cond (.tmp 30) (.seq (.region [⟨some 2, .assign (.const (.string (⟨#[77, 68, 80]⟩))), 9, none, true⟩])
  .ret) .skip))))))))))))))))))))))))
  (.seq (.region [⟨some 2, .assign (.const (.string (⟨#[]⟩))), 9, none, true⟩])
  .ret))
noncomputable def f72 : AFn := ⟨32, [.tmp 2], b72⟩
/-- novation/event.Get -/
noncomputable def b73 : AC :=
  .seq (.region [⟨some 2, .box 38 (.tmp 0), 0, none, true⟩, ⟨some 4, .assign (.const (.int .i64 0)), 2, none, true⟩])
  (.seq (.seq (.region [⟨some 5, .move (.tmp 1), 5, none, true⟩])
  (.block 0 (.seq (.region [⟨some 7, .binOp .eql 5 (.tmp 5) (.const (.int .u8 77)) 5, 4, none, true⟩, ⟨some 6, .assign (.tmp 7), 4, none, true⟩])
  (.cond (.tmp 6) (.seq (.region [⟨some 8, .fieldAddr 38 (.tmp 2) 1, 0, none, true⟩, ⟨some 9, .load 3 (.tmp 8), 3, none, true⟩, ⟨some 4, .assign (.tmp 9), 2, none, true⟩])
  .ret) (.seq (.region [⟨some 11, .binOp .eql 5 (.tmp 5) (.const (.int .u8 65)) 5, 4, none, true⟩, ⟨some 10, .assign (.tmp 11), 4, none, true⟩])
  (.cond (.tmp 10) (.seq (.region [⟨some 12, .fieldAddr 38 (.tmp 2) 2, 0, none, true⟩, ⟨some 13, .load 3 (.tmp 12), 3, none, true⟩, ⟨some 4, .assign (.tmp 13), 2, none, true⟩])
  .ret) (.seq (.region [⟨some 15, .binOp .eql 5 (.tmp 5) (.const (.int .u8 73)) 5, 4, none, true⟩, ⟨some 14, .assign (.tmp 15), 4, none, true⟩])
  (.cond (.tmp 14) (.seq (.region [⟨some 16, .fieldAddr 38 (.tmp 2) 3, 0, none, true⟩, ⟨some 17, .load 3 (.tmp 16), 3, none, true⟩, ⟨some 4, .assign (.tmp 17), 2, none, true⟩])
  .ret) (.seq (.region [⟨some 19, .binOp .eql 5 (.tmp 5) (.const (.int .u8 83)) 5, 4, none, true⟩, ⟨some 18, .assign (.tmp 19), 4, none, true⟩])
  (.cond (.tmp 18) (.seq (.region [⟨some 20, .fieldAddr 38 (.tmp 2) 4, 0, none, true⟩, ⟨some 21, .load 3 (.tmp 20), 3, none, true⟩, ⟨some 4, .assign (.tmp 21), 2, none, true⟩])
  .ret) (.seq (.region [⟨some 23, .binOp .eql 5 (.tmp 5) (.const (.int .u8 68)) 5, 4, none, true⟩, ⟨some 22, .assign (.tmp 23), 4, none, true⟩])
  (.cond (.tmp 22) (.seq (.region [⟨some 24, .fieldAddr 38 (.tmp 2) 5, 0, none, true⟩, ⟨some 25, .load 2 (.tmp 24), 2, none, true⟩, ⟨some 4, .assign (.tmp 25), 2, none, true⟩])
  .ret) (.seq (.region [⟨some 27, .binOp .eql 5 (.tmp 5) (.const (.int .u8 81)) 5, 4, none, true⟩, ⟨some 26, .assign (.tmp 27), 4, none, true⟩])
  (.cond (.tmp 26) (.seq (.region [⟨some 28, .fieldAddr 38 (.tmp 2) 6, 0, none, true⟩, ⟨some 29, .load 2 (.tmp 28), 2, none, true⟩, ⟨some 4, .assign (.tmp 29), 2, none, true⟩])
  .ret) .skip))))))))))))))
  (.seq (.region [⟨some 30, .fieldAddr 38 (.tmp 2) 7, 0, none, true⟩, ⟨some 31, .load 2 (.tmp 30), 2, none, true⟩, ⟨some 4, .assign (.tmp 31), 2, none, true⟩])
  .ret))
noncomputable def f73 : AFn := ⟨32, [.tmp 4], b73⟩
/-- slices.Clip[[]byte,byte] -/
noncomputable def b74 : AC :=
  .seq (.region [⟨some 2, .assign (.const (.slice none 0 0)), 41, none, true⟩])
  (.seq (.region [⟨some 3, .move (.tmp 0), 41, none, true⟩, ⟨some 4, .move (.tmp 0), 41, none, true⟩, ⟨some 5, .call (⟨.builtin .len, #[.tmp 4], #[41]⟩), 3, none, true⟩, ⟨some 6, .move (.tmp 0), 41, none, true⟩, ⟨some 7, .call (⟨.builtin .len, #[.tmp 6], #[41]⟩), 3, none, true⟩, ⟨some 8, .slice 41 (.tmp 3) none (some (.tmp 5)) (some (.tmp 7)), 41, none, true⟩, ⟨some 2, .assign (.tmp 8), 41, none, true⟩])
  .ret)
noncomputable def f74 : AFn := ⟨9, [.tmp 2], b74⟩
/-- novation/frame.Walk$1 -/
noncomputable def b75 : AC :=
  .seq (.region [⟨some 3, .assign (.const (.int .i64 0)), 3, none, true⟩])
  (.block 0 (.loop [true, true, false, true, false, false, false, false, false, false, false, false, false, false, false, false, false, false, false, false, false, false, false, false, false, false, false] (.block 1 (.seq (.region [⟨some 8, .load 41 (.tmp 1), 41, none, true⟩, ⟨some 9, .move (.tmp 3), 3, none, true⟩, ⟨some 10, .slice 41 (.tmp 8) (some (.tmp 9)) none none, 41, none, true⟩, ⟨some 11, .call (⟨.value (.func 76), #[.tmp 10], #[41]⟩), 115, none, true⟩, ⟨some 7, .move (.tmp 11), 115, none, true⟩, ⟨some 12, .extract (.tmp 7) 0, 41, none, true⟩, ⟨some 13, .extract (.tmp 7) 1, 3, none, true⟩, ⟨some 14, .extract (.tmp 7) 2, 34, none, true⟩, ⟨some 4, .assign (.tmp 12), 41, none, true⟩, ⟨some 5, .assign (.tmp 13), 3, none, true⟩, ⟨some 6, .assign (.tmp 14), 34, none, true⟩])
  (.seq (.seq (.region [⟨some 15, .move (.tmp 6), 34, none, true⟩, ⟨some 16, .binOp .neq 34 (.tmp 15) (.const (.int .i64 0)) 34, 4, none, true⟩, ⟨some 17, .move (.tmp 16), 4, none, true⟩, ⟨some 18, .move (.tmp 0), 114, some (some 17), false⟩, ⟨some 19, .move (.tmp 3), 3, some (some 17), false⟩, ⟨some 20, .move (.tmp 4), 41, some (some 17), false⟩, ⟨some 21, .call (⟨.value (.tmp 18), #[.tmp 19, .tmp 20], #[3, 41]⟩), 4, some (some 17), false⟩, ⟨some 22, .unOp .not 4 (.tmp 21), 4, some (some 17), false⟩, ⟨some 23, .pick (.tmp 17) (.const (.bool true)) (.tmp 22), 4, none, true⟩])
  (.cond (.tmp 23) .ret .skip))
  (.region [⟨some 24, .move (.tmp 3), 3, none, true⟩, ⟨some 25, .move (.tmp 5), 3, none, true⟩, ⟨some 26, .binOp .add 3 (.tmp 24) (.tmp 25) 3, 3, none, true⟩, ⟨some 3, .assign (.tmp 26), 3, none, true⟩]))))))
noncomputable def f75 : AFn := ⟨27, [], b75⟩
/-- novation/frame.Next -/
noncomputable def b76 : AC :=
  .seq (.region [⟨some 2, .assign (.const (.slice none 0 0)), 41, none, true⟩, ⟨some 3, .assign (.const (.int .i64 0)), 3, none, true⟩, ⟨some 4, .assign (.const (.int .i64 0)), 34, none, true⟩])
  (.seq (.seq (.region [⟨some 6, .move (.tmp 0), 41, none, true⟩, ⟨some 7, .call (⟨.builtin .len, #[.tmp 6], #[41]⟩), 3, none, true⟩, ⟨some 8, .binOp .lss 3 (.tmp 7) (.const (.int .i64 2)) 3, 4, none, true⟩])
  (.cond (.tmp 8) (.seq (.region [⟨some 2, .assign (.const (.slice none 0 0)), 41, none, true⟩, ⟨some 3, .assign (.const (.int .i64 0)), 3, none, true⟩, ⟨some 4, .assign (.const (.int .i64 12)), 34, none, true⟩])
  .ret) .skip))
  (.seq (.draw (drawOf T.c76 3) [0, 1, 2, 3, 4, 5, 6, 7, 8, 9, 10] [[], [0], [0, 1], [0, 1, 2], [0, 1, 2, 3], [], [5], [5, 6], [5, 6, 7], [0, 1, 2, 3, 4, 5, 6, 7, 8], [0, 1, 2, 3, 4, 5, 6, 7, 8, 9]])
  (.seq (.block 0 (.seq (.region [⟨some 20, .move (.tmp 5), 3, none, true⟩, ⟨some 21, .binOp .gtr 3 (.tmp 20) (.const (.int .i64 400)) 3, 4, none, true⟩, ⟨some 19, .assign (.tmp 21), 4, none, true⟩])
  (.cond (.tmp 19) (.seq (.region [⟨some 2, .assign (.const (.slice none 0 0)), 41, none, true⟩, ⟨some 3, .assign (.const (.int .i64 0)), 3, none, true⟩, ⟨some 4, .assign (.const (.int .i64 13)), 34, none, true⟩])
  .ret) (.seq (.region [⟨some 23, .move (.tmp 0), 41, none, true⟩, ⟨some 24, .call (⟨.builtin .len, #[.tmp 23], #[41]⟩), 3, none, true⟩, ⟨some 25, .move (.tmp 5), 3, none, true⟩, ⟨some 26, .binOp .add 3 (.tmp 25) (.const (.int .i64 6)) 3, 3, none, true⟩, ⟨some 27, .binOp .lss 3 (.tmp 24) (.tmp 26) 3, 4, none, true⟩, ⟨some 22, .assign (.tmp 27), 4, none, true⟩])
  (.cond (.tmp 22) (.seq (.region [⟨some 2, .assign (.const (.slice none 0 0)), 41, none, true⟩, ⟨some 3, .assign (.const (.int .i64 0)), 3, none, true⟩, ⟨some 4, .assign (.const (.int .i64 12)), 34, none, true⟩])
  .ret) (.seq (.draw (drawOf T.c76 8) [0, 1, 2, 3, 4, 5, 6, 7, 8, 9, 10, 11, 12, 13, 14, 15] [[], [], [1], [], [3], [0, 1, 2, 3, 4], [0, 1, 2, 3, 4, 5], [], [], [8], [7, 8, 9], [7, 8, 9, 10], [7, 8, 9, 10, 11], [7, 8, 9, 10, 11, 12], [0, 1, 2, 3, 4, 5, 6, 7, 8, 9, 10, 11, 12, 13], [0, 1, 2, 3, 4, 5, 6, 7, 8, 9, 10, 11, 12, 13, 14]])
  (.cond (.tmp 28) (.seq (.region [⟨some 2, .assign (.const (.slice none 0 0)), 41, none, true⟩, ⟨some 3, .assign (.const (.int .i64 0)), 3, none, true⟩, ⟨some 4, .assign (.const (.int .i64 13)), 34, none, true⟩])
  .ret) .skip)))))))
  (.seq (.draw (drawOf T.c76 10) [0, 1, 2, 3, 4, 5, 7, 8, 6, 9, 10, 11] [[], [0], [], [], [3], [2, 3, 4], [0, 1, 2, 3, 4, 5], [], [7], [0, 1, 2, 3, 4, 5, 6], [0, 1, 2, 3, 4, 5, 6, 7, 8, 9], [0, 1, 2, 3, 4, 5, 6, 7, 8, 9, 10]])
  .ret))))
noncomputable def f76 : AFn := ⟨53, [.tmp 2, .tmp 3, .tmp 4], b76⟩
/-- novation/event.Take -/
noncomputable def b77 : AC :=
  .seq (.region [⟨some 2, .assign (.const (.int .i64 0)), 2, none, true⟩, ⟨some 3, .assign (.const (.int .i64 0)), 3, none, true⟩])
  (.seq (.region [⟨some 4, .assign (.const (.int .u64 0)), 70, none, true⟩])
  (.seq (.seq (.region [⟨some 5, .assign (.const (.int .i64 0)), 3, none, true⟩])
  (.block 0 (.loop [true, false, false, false, true, true, false, false, false, false, false, false, false, false, false, false, false, false, false, false, false, false, false, false, false, false, false, false, false, false, false, false, false, false, false, false, false, false, false, false, false, false] (.seq (.seq (.region [⟨some 6, .move (.tmp 5), 3, none, true⟩, ⟨some 7, .move (.tmp 0), 41, none, true⟩, ⟨some 8, .call (⟨.builtin .len, #[.tmp 7], #[41]⟩), 3, none, true⟩, ⟨some 9, .binOp .lss 3 (.tmp 6) (.tmp 8) 3, 4, none, true⟩, ⟨some 10, .move (.tmp 9), 4, none, true⟩, ⟨some 11, .move (.tmp 5), 3, some (some 10), true⟩, ⟨some 12, .binOp .lss 3 (.tmp 11) (.const (.int .i64 10)) 3, 4, some (some 10), true⟩, ⟨some 13, .pick (.tmp 10) (.tmp 12) (.const (.bool false)), 4, none, true⟩])
  (.cond (.tmp 13) .skip (.exit 0)))
  (.seq (.block 1 (.seq (.region [⟨some 16, .move (.tmp 4), 70, none, true⟩, ⟨some 17, .move (.tmp 0), 41, none, true⟩, ⟨some 18, .move (.tmp 5), 3, none, true⟩, ⟨some 19, .indexAddr 41 (.tmp 17) (.tmp 18), 0, none, true⟩, ⟨some 20, .load 5 (.tmp 19), 5, none, true⟩, ⟨some 21, .binOp .and 5 (.tmp 20) (.const (.int .u8 127)) 5, 5, none, true⟩, ⟨some 22, .convert 5 70 (.tmp 21), 70, none, true⟩, ⟨some 23, .move (.tmp 5), 3, none, true⟩, ⟨some 24, .binOp .mul 3 (.const (.int .i64 7)) (.tmp 23) 3, 3, none, true⟩, ⟨some 25, .binOp .shl 70 (.tmp 22) (.tmp 24) 3, 70, none, true⟩, ⟨some 26, .binOp .or 70 (.tmp 16) (.tmp 25) 70, 70, none, true⟩, ⟨some 4, .assign (.tmp 26), 70, none, true⟩])
  (.seq (.region [⟨some 27, .move (.tmp 0), 41, none, true⟩, ⟨some 28, .move (.tmp 5), 3, none, true⟩, ⟨some 29, .indexAddr 41 (.tmp 27) (.tmp 28), 0, none, true⟩, ⟨some 30, .load 5 (.tmp 29), 5, none, true⟩, ⟨some 31, .binOp .lss 5 (.tmp 30) (.const (.int .u8 128)) 5, 4, none, true⟩])
  (.cond (.tmp 31) (.seq (.region [⟨some 32, .move (.tmp 4), 70, none, true⟩, ⟨some 33, .binOp .shr 70 (.tmp 32) (.const (.int .u64 1)) 100, 70, none, true⟩, ⟨some 34, .convert 70 2 (.tmp 33), 2, none, true⟩, ⟨some 35, .move (.tmp 4), 70, none, true⟩, ⟨some 36, .binOp .and 70 (.tmp 35) (.const (.int .u64 1)) 70, 70, none, true⟩, ⟨some 37, .convert 70 2 (.tmp 36), 2, none, true⟩, ⟨some 38, .unOp .neg 2 (.tmp 37), 2, none, true⟩, ⟨some 39, .binOp .xor 2 (.tmp 34) (.tmp 38) 2, 2, none, true⟩, ⟨some 40, .move (.tmp 5), 3, none, true⟩, ⟨some 41, .binOp .add 3 (.tmp 40) (.const (.int .i64 1)) 3, 3, none, true⟩, ⟨some 2, .assign (.tmp 39), 2, none, true⟩, ⟨some 3, .assign (.tmp 41), 3, none, true⟩])
  .ret) .skip))))
  (.region [⟨some 14, .move (.tmp 5), 3, none, true⟩, ⟨some 15, .binOp .add 3 (.tmp 14) (.const (.int .i64 1)) 3, 3, none, true⟩, ⟨some 5, .assign (.tmp 15), 3, none, true⟩]))))))
  (.seq (.region [⟨some 2, .assign (.const (.int .i64 0)), 2, none, true⟩, ⟨some 3, .assign (.const (.int .i64 0)), 3, none, true⟩])
  .ret)))
noncomputable def f77 : AFn := ⟨42, [.tmp 2, .tmp 3], b77⟩
/-- novation/plan.in -/
noncomputable def b78 : AC :=
  .seq (.region [⟨some 6, .assign (.const (.bool false)), 4, none, true⟩])
  (.seq (.region [⟨some 7, .move (.tmp 0), 2, none, true⟩, ⟨some 8, .move (.tmp 1), 2, none, true⟩, ⟨some 9, .binOp .geq 2 (.tmp 7) (.tmp 8) 2, 4, none, true⟩, ⟨some 10, .move (.tmp 9), 4, none, true⟩, ⟨some 11, .move (.tmp 0), 2, some (some 10), true⟩, ⟨some 12, .move (.tmp 2), 2, some (some 10), true⟩, ⟨some 13, .binOp .leq 2 (.tmp 11) (.tmp 12) 2, 4, some (some 10), true⟩, ⟨some 14, .pick (.tmp 10) (.tmp 13) (.const (.bool false)), 4, none, true⟩, ⟨some 6, .assign (.tmp 14), 4, none, true⟩])
  .ret)
noncomputable def f78 : AFn := ⟨15, [.tmp 6], b78⟩
/-- slices.Chunk[[]int64,int64] -/
noncomputable def b79 : AC :=
  .seq (.region [⟨some 2, .box 97 (.tmp 0), 0, none, true⟩, ⟨some 3, .box 3 (.tmp 1), 0, none, true⟩, ⟨some 4, .assign (.const .nilFunc), 121, none, true⟩])
  (.seq (.seq (.region [⟨some 5, .load 3 (.tmp 3), 3, none, true⟩, ⟨some 6, .binOp .lss 3 (.tmp 5) (.const (.int .i64 1)) 3, 4, none, true⟩])
  (.cond (.tmp 6) (.region [⟨some 7, .makeInterface 9 (.const (.string (⟨#[99, 97, 110, 110, 111, 116, 32, 98, 101, 32, 108, 101, 115, 115, 32, 116, 104, 97, 110, 32, 49]⟩))), 20, none, true⟩, ⟨none, .panic (.tmp 7), 0, none, true⟩]) .skip))
  (.seq (.region [⟨some 8, .makeFunc (.func 92) #[] #[.tmp 2, .tmp 3], 120, none, true⟩, ⟨some 4, .assign (.tmp 8), 121, none, true⟩])
  .ret))
noncomputable def f79 : AFn := ⟨9, [.tmp 4], b79⟩
/-- bytes.Equal -/
noncomputable def b80 : AC :=
  .seq (.region [⟨some 4, .assign (.const (.bool false)), 4, none, true⟩])
  (.seq (.region [⟨some 5, .move (.tmp 0), 41, none, true⟩, ⟨some 6, .convert 41 9 (.tmp 5), 9, none, true⟩, ⟨some 7, .move (.tmp 1), 41, none, true⟩, ⟨some 8, .convert 41 9 (.tmp 7), 9, none, true⟩, ⟨some 9, .binOp .eql 9 (.tmp 6) (.tmp 8) 9, 4, none, true⟩, ⟨some 4, .assign (.tmp 9), 4, none, true⟩])
  .ret)
noncomputable def f80 : AFn := ⟨10, [.tmp 4], b80⟩
/-- novation/event.With -/
noncomputable def b81 : AC :=
  .seq (.region [⟨some 3, .box 38 (.tmp 0), 0, none, true⟩, ⟨some 6, .alloc 38, 0, none, true⟩])
  (.seq (.seq (.region [⟨some 7, .move (.tmp 1), 5, none, true⟩])
  (.block 0 (.seq (.region [⟨some 11, .binOp .eql 5 (.tmp 7) (.const (.int .u8 77)) 5, 4, none, true⟩, ⟨some 10, .assign (.tmp 11), 4, none, true⟩])
  (.cond (.tmp 10) (.region [⟨some 12, .move (.tmp 2), 2, none, true⟩, ⟨some 13, .fieldAddr 38 (.tmp 3) 1, 0, none, true⟩, ⟨none, .store 3 (.tmp 13) (.tmp 12), 0, none, true⟩]) (.seq (.region [⟨some 15, .binOp .eql 5 (.tmp 7) (.const (.int .u8 65)) 5, 4, none, true⟩, ⟨some 14, .assign (.tmp 15), 4, none, true⟩])
  (.cond (.tmp 14) (.region [⟨some 16, .move (.tmp 2), 2, none, true⟩, ⟨some 17, .fieldAddr 38 (.tmp 3) 2, 0, none, true⟩, ⟨none, .store 3 (.tmp 17) (.tmp 16), 0, none, true⟩]) (.seq (.region [⟨some 19, .binOp .eql 5 (.tmp 7) (.const (.int .u8 73)) 5, 4, none, true⟩, ⟨some 18, .assign (.tmp 19), 4, none, true⟩])
  (.cond (.tmp 18) (.region [⟨some 20, .move (.tmp 2), 2, none, true⟩, ⟨some 21, .fieldAddr 38 (.tmp 3) 3, 0, none, true⟩, ⟨none, .store 3 (.tmp 21) (.tmp 20), 0, none, true⟩]) (.seq (.region [⟨some 23, .binOp .eql 5 (.tmp 7) (.const (.int .u8 83)) 5, 4, none, true⟩, ⟨some 22, .assign (.tmp 23), 4, none, true⟩])
  (.cond (.tmp 22) (.region [⟨some 24, .move (.tmp 2), 2, none, true⟩, ⟨some 25, .fieldAddr 38 (.tmp 3) 4, 0, none, true⟩, ⟨none, .store 3 (.tmp 25) (.tmp 24), 0, none, true⟩]) (.seq (.region [⟨some 27, .binOp .eql 5 (.tmp 7) (.const (.int .u8 68)) 5, 4, none, true⟩, ⟨some 26, .assign (.tmp 27), 4, none, true⟩])
  (.cond (.tmp 26) (.region [⟨some 28, .move (.tmp 2), 2, none, true⟩, ⟨some 29, .fieldAddr 38 (.tmp 3) 5, 0, none, true⟩, ⟨none, .store 2 (.tmp 29) (.tmp 28), 0, none, true⟩]) (.seq (.region [⟨some 31, .binOp .eql 5 (.tmp 7) (.const (.int .u8 81)) 5, 4, none, true⟩, ⟨some 30, .assign (.tmp 31), 4, none, true⟩])
  (.cond (.tmp 30) (.region [⟨some 32, .move (.tmp 2), 2, none, true⟩, ⟨some 33, .fieldAddr 38 (.tmp 3) 6, 0, none, true⟩, ⟨none, .store 2 (.tmp 33) (.tmp 32), 0, none, true⟩]) (.region [⟨some 8, .move (.tmp 2), 2, none, true⟩, ⟨some 9, .fieldAddr 38 (.tmp 3) 7, 0, none, true⟩, ⟨none, .store 2 (.tmp 9) (.tmp 8), 0, none, true⟩])))))))))))))))
  (.seq (.region [⟨some 34, .load 38 (.tmp 3), 38, none, true⟩, ⟨none, .store 38 (.tmp 6) (.tmp 34), 0, none, true⟩])
  .ret))
noncomputable def f81 : AFn := ⟨35, [.cell 6 38], b81⟩
/-- novation/novationref4.within -/
noncomputable def b82 : AC :=
  .seq (.region [⟨some 6, .assign (.const (.bool false)), 4, none, true⟩])
  (.seq (.region [⟨some 7, .move (.tmp 0), 2, none, true⟩, ⟨some 8, .move (.tmp 1), 2, none, true⟩, ⟨some 9, .binOp .geq 2 (.tmp 7) (.tmp 8) 2, 4, none, true⟩, ⟨some 10, .move (.tmp 9), 4, none, true⟩, ⟨some 11, .move (.tmp 0), 2, some (some 10), true⟩, ⟨some 12, .move (.tmp 2), 2, some (some 10), true⟩, ⟨some 13, .binOp .leq 2 (.tmp 11) (.tmp 12) 2, 4, some (some 10), true⟩, ⟨some 14, .pick (.tmp 10) (.tmp 13) (.const (.bool false)), 4, none, true⟩, ⟨some 6, .assign (.tmp 14), 4, none, true⟩])
  .ret)
noncomputable def f82 : AFn := ⟨15, [.tmp 6], b82⟩
/-- novation/novationref4.Kind -/
noncomputable def b83 : AC :=
  .seq (.region [⟨some 2, .assign (.const (.bool false)), 4, none, true⟩])
  (.seq (.region [⟨some 3, .move (.tmp 0), 3, none, true⟩, ⟨some 4, .binOp .geq 3 (.tmp 3) (.const (.int .i64 1)) 3, 4, none, true⟩, ⟨some 5, .move (.tmp 4), 4, none, true⟩, ⟨some 6, .move (.tmp 0), 3, some (some 5), true⟩, ⟨some 7, .binOp .leq 3 (.tmp 6) (.const (.int .i64 22)) 3, 4, some (some 5), true⟩, ⟨some 8, .pick (.tmp 5) (.tmp 7) (.const (.bool false)), 4, none, true⟩, ⟨some 2, .assign (.tmp 8), 4, none, true⟩])
  .ret)
noncomputable def f83 : AFn := ⟨9, [.tmp 2], b83⟩
/-- novation/novationref4.bounds -/
noncomputable def b84 : AC :=
  .seq (.region [⟨some 4, .assign (.const (.int .i64 0)), 2, none, true⟩, ⟨some 5, .assign (.const (.int .i64 0)), 2, none, true⟩])
  (.seq (.seq (.region [⟨some 6, .move (.tmp 1), 5, none, true⟩])
  (.block 0 (.seq (.region [⟨some 8, .binOp .eql 5 (.tmp 6) (.const (.int .u8 77)) 5, 4, none, true⟩, ⟨some 7, .assign (.tmp 8), 4, none, true⟩])
  (.cond (.tmp 7) (.seq (.region [⟨some 4, .assign (.const (.int .i64 1)), 2, none, true⟩, ⟨some 5, .assign (.const (.int .i64 12)), 2, none, true⟩])
  .ret) (.seq (.region [⟨some 10, .binOp .eql 5 (.tmp 6) (.const (.int .u8 65)) 5, 4, none, true⟩, ⟨some 9, .assign (.tmp 10), 4, none, true⟩])
  (.cond (.tmp 9) (.seq (.region [⟨some 4, .assign (.const (.int .i64 1)), 2, none, true⟩, ⟨some 5, .assign (.const (.int .i64 24)), 2, none, true⟩])
  .ret) (.seq (.region [⟨some 12, .binOp .eql 5 (.tmp 6) (.const (.int .u8 73)) 5, 4, none, true⟩, ⟨some 11, .assign (.tmp 12), 4, none, true⟩])
  (.cond (.tmp 11) (.seq (.region [⟨some 4, .assign (.const (.int .i64 0)), 2, none, true⟩, ⟨some 5, .assign (.const (.int .i64 5)), 2, none, true⟩])
  .ret) (.seq (.region [⟨some 14, .binOp .eql 5 (.tmp 6) (.const (.int .u8 83)) 5, 4, none, true⟩, ⟨some 13, .assign (.tmp 14), 4, none, true⟩])
  (.cond (.tmp 13) (.seq (.region [⟨some 4, .assign (.const (.int .i64 1)), 2, none, true⟩, ⟨some 5, .assign (.const (.int .i64 2)), 2, none, true⟩])
  .ret) (.seq (.region [⟨some 16, .binOp .eql 5 (.tmp 6) (.const (.int .u8 68)) 5, 4, none, true⟩, ⟨some 15, .assign (.tmp 16), 4, none, true⟩])
  (.cond (.tmp 15) (.seq (.region [⟨some 4, .assign (.const (.int .i64 1)), 2, none, true⟩, ⟨some 5, .assign (.const (.int .i64 1099511627776)), 2, none, true⟩])
  .ret) (.seq (.region [⟨some 18, .binOp .eql 5 (.tmp 6) (.const (.int .u8 81)) 5, 4, none, true⟩, ⟨some 17, .assign (.tmp 18), 4, none, true⟩])
  (.cond (.tmp 17) (.seq (.region [⟨some 19, .move (.tmp 0), 3, none, true⟩, ⟨some 20, .call (⟨.value (.func 93), #[.tmp 19], #[3]⟩), 125, none, true⟩, ⟨some 21, .extract (.tmp 20) 0, 2, none, true⟩, ⟨some 22, .extract (.tmp 20) 1, 2, none, true⟩, ⟨some 4, .assign (.tmp 21), 2, none, true⟩, ⟨some 5, .assign (.tmp 22), 2, none, true⟩])
  .ret) .skip))))))))))))))
  (.seq (.region [⟨some 23, .move (.tmp 0), 3, none, true⟩, ⟨some 24, .call (⟨.value (.func 94), #[.tmp 23], #[3]⟩), 125, none, true⟩, ⟨some 25, .extract (.tmp 24) 0, 2, none, true⟩, ⟨some 26, .extract (.tmp 24) 1, 2, none, true⟩, ⟨some 4, .assign (.tmp 25), 2, none, true⟩, ⟨some 5, .assign (.tmp 26), 2, none, true⟩])
  .ret))
noncomputable def f84 : AFn := ⟨27, [.tmp 4, .tmp 5], b84⟩
/-- novation/novationref4.with -/
noncomputable def b85 : AC :=
  .seq (.region [⟨some 3, .box 38 (.tmp 0), 0, none, true⟩, ⟨some 6, .alloc 38, 0, none, true⟩])
  (.seq (.seq (.region [⟨some 7, .move (.tmp 1), 5, none, true⟩])
  (.block 0 (.seq (.region [⟨some 11, .binOp .eql 5 (.tmp 7) (.const (.int .u8 77)) 5, 4, none, true⟩, ⟨some 10, .assign (.tmp 11), 4, none, true⟩])
  (.cond (.tmp 10) (.region [⟨some 12, .move (.tmp 2), 2, none, true⟩, ⟨some 13, .fieldAddr 38 (.tmp 3) 1, 0, none, true⟩, ⟨none, .store 3 (.tmp 13) (.tmp 12), 0, none, true⟩]) (.seq (.region [⟨some 15, .binOp .eql 5 (.tmp 7) (.const (.int .u8 65)) 5, 4, none, true⟩, ⟨some 14, .assign (.tmp 15), 4, none, true⟩])
  (.cond (.tmp 14) (.region [⟨some 16, .move (.tmp 2), 2, none, true⟩, ⟨some 17, .fieldAddr 38 (.tmp 3) 2, 0, none, true⟩, ⟨none, .store 3 (.tmp 17) (.tmp 16), 0, none, true⟩]) (.seq (.region [⟨some 19, .binOp .eql 5 (.tmp 7) (.const (.int .u8 73)) 5, 4, none, true⟩, ⟨some 18, .assign (.tmp 19), 4, none, true⟩])
  (.cond (.tmp 18) (.region [⟨some 20, .move (.tmp 2), 2, none, true⟩, ⟨some 21, .fieldAddr 38 (.tmp 3) 3, 0, none, true⟩, ⟨none, .store 3 (.tmp 21) (.tmp 20), 0, none, true⟩]) (.seq (.region [⟨some 23, .binOp .eql 5 (.tmp 7) (.const (.int .u8 83)) 5, 4, none, true⟩, ⟨some 22, .assign (.tmp 23), 4, none, true⟩])
  (.cond (.tmp 22) (.region [⟨some 24, .move (.tmp 2), 2, none, true⟩, ⟨some 25, .fieldAddr 38 (.tmp 3) 4, 0, none, true⟩, ⟨none, .store 3 (.tmp 25) (.tmp 24), 0, none, true⟩]) (.seq (.region [⟨some 27, .binOp .eql 5 (.tmp 7) (.const (.int .u8 68)) 5, 4, none, true⟩, ⟨some 26, .assign (.tmp 27), 4, none, true⟩])
  (.cond (.tmp 26) (.region [⟨some 28, .move (.tmp 2), 2, none, true⟩, ⟨some 29, .fieldAddr 38 (.tmp 3) 5, 0, none, true⟩, ⟨none, .store 2 (.tmp 29) (.tmp 28), 0, none, true⟩]) (.seq (.region [⟨some 31, .binOp .eql 5 (.tmp 7) (.const (.int .u8 81)) 5, 4, none, true⟩, ⟨some 30, .assign (.tmp 31), 4, none, true⟩])
  (.cond (.tmp 30) (.region [⟨some 32, .move (.tmp 2), 2, none, true⟩, ⟨some 33, .fieldAddr 38 (.tmp 3) 6, 0, none, true⟩, ⟨none, .store 2 (.tmp 33) (.tmp 32), 0, none, true⟩]) (.region [⟨some 8, .move (.tmp 2), 2, none, true⟩, ⟨some 9, .fieldAddr 38 (.tmp 3) 7, 0, none, true⟩, ⟨none, .store 2 (.tmp 9) (.tmp 8), 0, none, true⟩])))))))))))))))
  (.seq (.region [⟨some 34, .load 38 (.tmp 3), 38, none, true⟩, ⟨none, .store 38 (.tmp 6) (.tmp 34), 0, none, true⟩])
  .ret))
noncomputable def f85 : AFn := ⟨35, [.cell 6 38], b85⟩
/-- novation/novationref4.Next -/
noncomputable def b86 : AC :=
  .seq (.region [⟨some 2, .assign (.const (.slice none 0 0)), 41, none, true⟩, ⟨some 3, .assign (.const (.int .i64 0)), 3, none, true⟩, ⟨some 4, .assign (.const (.int .i64 0)), 34, none, true⟩])
  (.seq (.seq (.region [⟨some 8, .move (.tmp 0), 41, none, true⟩, ⟨some 9, .call (⟨.builtin .len, #[.tmp 8], #[41]⟩), 3, none, true⟩, ⟨some 10, .binOp .lss 3 (.tmp 9) (.const (.int .i64 2)) 3, 4, none, true⟩])
  (.cond (.tmp 10) (.seq (.region [⟨some 2, .assign (.const (.slice none 0 0)), 41, none, true⟩, ⟨some 3, .assign (.const (.int .i64 0)), 3, none, true⟩, ⟨some 4, .assign (.const (.int .i64 12)), 34, none, true⟩])
  .ret) .skip))
  (.seq (.draw (drawOf T.c86 3) [0, 1, 2, 3, 4, 5, 6, 7, 8, 9, 10] [[], [0], [0, 1], [0, 1, 2], [0, 1, 2, 3], [], [5], [5, 6], [5, 6, 7], [0, 1, 2, 3, 4, 5, 6, 7, 8], [0, 1, 2, 3, 4, 5, 6, 7, 8, 9]])
  (.seq (.seq (.region [⟨some 21, .move (.tmp 5), 3, none, true⟩, ⟨some 22, .binOp .gtr 3 (.tmp 21) (.const (.int .i64 400)) 3, 4, none, true⟩])
  (.cond (.tmp 22) (.seq (.region [⟨some 2, .assign (.const (.slice none 0 0)), 41, none, true⟩, ⟨some 3, .assign (.const (.int .i64 0)), 3, none, true⟩, ⟨some 4, .assign (.const (.int .i64 13)), 34, none, true⟩])
  .ret) .skip))
  (.seq (.seq (.region [⟨some 23, .move (.tmp 0), 41, none, true⟩, ⟨some 24, .call (⟨.builtin .len, #[.tmp 23], #[41]⟩), 3, none, true⟩, ⟨some 25, .move (.tmp 5), 3, none, true⟩, ⟨some 26, .binOp .add 3 (.tmp 25) (.const (.int .i64 6)) 3, 3, none, true⟩, ⟨some 27, .binOp .lss 3 (.tmp 24) (.tmp 26) 3, 4, none, true⟩])
  (.cond (.tmp 27) (.seq (.region [⟨some 2, .assign (.const (.slice none 0 0)), 41, none, true⟩, ⟨some 3, .assign (.const (.int .i64 0)), 3, none, true⟩, ⟨some 4, .assign (.const (.int .i64 12)), 34, none, true⟩])
  .ret) .skip))
  (.seq (.region [⟨some 28, .move (.tmp 0), 41, none, true⟩, ⟨some 29, .move (.tmp 5), 3, none, true⟩, ⟨some 30, .binOp .add 3 (.tmp 29) (.const (.int .i64 2)) 3, 3, none, true⟩, ⟨some 31, .slice 41 (.tmp 28) none (some (.tmp 30)) none, 41, none, true⟩, ⟨some 32, .call (⟨.value (.func 51), #[.tmp 31], #[41]⟩), 98, none, true⟩, ⟨some 6, .assign (.tmp 32), 98, none, true⟩])
  (.seq (.seq (.region [⟨some 7, .assign (.const (.int .i64 0)), 3, none, true⟩])
  (.block 0 (.loop [true, false, false, false, false, true, true, true, false, false, false, false, false, false, false, false, false, false, false, false, false, false, false, false, false, false, false, false, false, false, false, false, false, false, false, false, false, false, false, false, false, false, false, false, false, false, false, false, false, false, false, false, false, false, false, false, false, false, false] (.seq (.seq (.region [⟨some 33, .move (.tmp 7), 3, none, true⟩, ⟨some 34, .binOp .lss 3 (.tmp 33) (.const (.int .i64 4)) 3, 4, none, true⟩])
  (.cond (.tmp 34) .skip (.exit 0)))
  (.seq (.block 1 (.seq (.draw (drawOf T.c86 12) [0, 1, 2, 3, 4, 5, 6, 7, 8, 9, 10, 11, 12, 13] [[], [], [1], [], [1, 2, 3], [0, 1, 2, 3, 4], [0, 1, 2, 3, 4, 5], [], [], [8], [7, 8, 9], [7, 8, 9, 10], [7, 8, 9, 10, 11], [0, 1, 2, 3, 4, 5, 6, 7, 8, 9, 10, 11, 12]])
  (.cond (.tmp 50) (.seq (.region [⟨some 2, .assign (.const (.slice none 0 0)), 41, none, true⟩, ⟨some 3, .assign (.const (.int .i64 0)), 3, none, true⟩, ⟨some 4, .assign (.const (.int .i64 13)), 34, none, true⟩])
  .ret) .skip)))
  (.region [⟨some 35, .move (.tmp 7), 3, none, true⟩, ⟨some 36, .binOp .add 3 (.tmp 35) (.const (.int .i64 1)) 3, 3, none, true⟩, ⟨some 7, .assign (.tmp 36), 3, none, true⟩]))))))
  (.seq (.region [⟨some 51, .buildSlice 41 0 #[], 41, none, true⟩, ⟨some 52, .move (.tmp 0), 41, none, true⟩, ⟨some 53, .move (.tmp 5), 3, none, true⟩, ⟨some 54, .binOp .add 3 (.tmp 53) (.const (.int .i64 2)) 3, 3, none, true⟩, ⟨some 55, .slice 41 (.tmp 52) (some (.const (.int .i64 2))) (some (.tmp 54)) none, 41, none, true⟩, ⟨some 56, .call (⟨.builtin .append, #[.tmp 51, .tmp 55], #[41, 41]⟩), 41, none, true⟩, ⟨some 57, .move (.tmp 5), 3, none, true⟩, ⟨some 58, .binOp .add 3 (.tmp 57) (.const (.int .i64 6)) 3, 3, none, true⟩, ⟨some 2, .assign (.tmp 56), 41, none, true⟩, ⟨some 3, .assign (.tmp 58), 3, none, true⟩, ⟨some 4, .assign (.const (.int .i64 0)), 34, none, true⟩])
  .ret)))))))
noncomputable def f86 : AFn := ⟨59, [.tmp 2, .tmp 3, .tmp 4], b86⟩
/-- novation/novationref4.ReadPlan -/
noncomputable def b87 : AC :=
  .seq (.region [⟨some 2, .alloc 28, 0, none, true⟩, ⟨some 3, .assign (.const (.int .i64 0)), 34, none, true⟩])
  (.seq (.region [⟨some 13, .move (.tmp 0), 41, none, true⟩, ⟨some 14, .call (⟨.value (.func 95), #[.tmp 13, .const (.int .i64 0)], #[41, 3]⟩), 117, none, true⟩, ⟨some 12, .move (.tmp 14), 117, none, true⟩, ⟨some 15, .extract (.tmp 12) 0, 2, none, true⟩, ⟨some 16, .extract (.tmp 12) 1, 3, none, true⟩, ⟨some 4, .assign (.tmp 15), 2, none, true⟩, ⟨some 5, .assign (.tmp 16), 3, none, true⟩])
  (.seq (.seq (.region [⟨some 17, .move (.tmp 5), 3, none, true⟩, ⟨some 18, .binOp .lss 3 (.tmp 17) (.const (.int .i64 0)) 3, 4, none, true⟩, ⟨some 19, .move (.tmp 18), 4, none, true⟩, ⟨some 20, .move (.tmp 4), 2, some (some 19), false⟩, ⟨some 21, .binOp .lss 2 (.tmp 20) (.const (.int .i64 1)) 2, 4, some (some 19), false⟩, ⟨some 22, .pick (.tmp 19) (.const (.bool true)) (.tmp 21), 4, none, true⟩, ⟨some 23, .move (.tmp 22), 4, none, true⟩, ⟨some 24, .move (.tmp 4), 2, some (some 23), false⟩, ⟨some 25, .binOp .gtr 2 (.tmp 24) (.const (.int .i64 6)) 2, 4, some (some 23), false⟩, ⟨some 26, .pick (.tmp 23) (.const (.bool true)) (.tmp 25), 4, none, true⟩])
  (.cond (.tmp 26) (.seq (.region [⟨some 27, .build 28 #[], 28, none, true⟩, ⟨none, .store 28 (.tmp 2) (.tmp 27), 0, none, true⟩, ⟨some 3, .assign (.const (.int .i64 13)), 34, none, true⟩])
  .ret) .skip))
  (.seq (.region [⟨some 6, .assign (.const (.slice none 0 0)), 97, none, true⟩])
  (.seq (.seq (.region [⟨some 7, .assign (.const (.int .i64 0)), 3, none, true⟩])
  (.block 0 (.loop [true, false, true, false, true, true, true, true, false, false, false, false, false, false, false, false, false, false, false, false, false, false, false, false, false, false, false, false, false, false, false, false, false, false, false, false, false, false, false, false, false, false, false, false, false, false, false, false, false, false, false, false, false, false, false, false, false, false, false, false, false, false, false, false, false, false, false, false, false, false, false, false, false, false, false, false, false, false, false, false, false, false, false, false, false, false, false, false, false, false, false, false, false, false, false, false, false, false, false, false, false, false, false, false, false, false, false, false, false, false, false, false, false, false, false, false, false, false, false, false, false, false] (.seq (.seq (.region [⟨some 28, .move (.tmp 7), 3, none, true⟩, ⟨some 29, .move (.tmp 4), 2, none, true⟩, ⟨some 30, .binOp .mul 3 (.const (.int .i64 4)) (.tmp 29) 3, 3, none, true⟩, ⟨some 31, .binOp .add 3 (.tmp 30) (.const (.int .i64 6)) 3, 3, none, true⟩, ⟨some 32, .binOp .lss 3 (.tmp 28) (.tmp 31) 3, 4, none, true⟩])
  (.cond (.tmp 32) .skip (.exit 0)))
  (.seq (.block 1 (.seq (.region [⟨some 36, .move (.tmp 0), 41, none, true⟩, ⟨some 37, .move (.tmp 5), 3, none, true⟩, ⟨some 38, .call (⟨.value (.func 95), #[.tmp 36, .tmp 37], #[41, 3]⟩), 117, none, true⟩, ⟨some 35, .move (.tmp 38), 117, none, true⟩, ⟨some 39, .extract (.tmp 35) 0, 2, none, true⟩, ⟨some 40, .extract (.tmp 35) 1, 3, none, true⟩, ⟨some 8, .assign (.tmp 39), 2, none, true⟩, ⟨some 9, .assign (.tmp 40), 3, none, true⟩])
  (.seq (.seq (.region [⟨some 41, .move (.tmp 9), 3, none, true⟩, ⟨some 42, .binOp .lss 3 (.tmp 41) (.const (.int .i64 0)) 3, 4, none, true⟩])
  (.cond (.tmp 42) (.seq (.region [⟨some 43, .build 28 #[], 28, none, true⟩, ⟨none, .store 28 (.tmp 2) (.tmp 43), 0, none, true⟩, ⟨some 3, .assign (.const (.int .i64 13)), 34, none, true⟩])
  .ret) .skip))
  (.region [⟨some 44, .move (.tmp 6), 97, none, true⟩, ⟨some 45, .move (.tmp 8), 2, none, true⟩, ⟨some 46, .buildSlice 97 1 #[(0, .tmp 45)], 97, none, true⟩, ⟨some 47, .call (⟨.builtin .append, #[.tmp 44, .tmp 46], #[97, 97]⟩), 97, none, true⟩, ⟨some 48, .move (.tmp 9), 3, none, true⟩, ⟨some 6, .assign (.tmp 47), 97, none, true⟩, ⟨some 5, .assign (.tmp 48), 3, none, true⟩]))))
  (.region [⟨some 33, .move (.tmp 7), 3, none, true⟩, ⟨some 34, .binOp .add 3 (.tmp 33) (.const (.int .i64 1)) 3, 3, none, true⟩, ⟨some 7, .assign (.tmp 34), 3, none, true⟩]))))))
  (.seq (.region [⟨some 10, .alloc 28, 0, none, true⟩])
  (.seq (.seq (.region [⟨some 11, .assign (.const (.int .i64 0)), 3, none, true⟩])
  (.block 2 (.loop [true, false, true, false, true, true, true, false, false, false, true, true, false, false, false, false, false, false, false, false, false, false, false, false, false, false, false, false, false, false, false, false, false, false, false, false, false, false, false, false, false, false, false, false, false, false, false, false, false, false, false, false, false, false, false, false, false, false, false, false, false, false, false, false, false, false, false, false, false, false, false, false, false, false, false, false, false, false, false, false, false, false, false, false, false, false, false, false, false, false, false, false, false, false, false, false, false, false, false, false, false, false, false, false, false, false, false, false, false, false, false, false, false, false, false, false, false, false, false, false, false, false] (.seq (.seq (.region [⟨some 49, .move (.tmp 11), 3, none, true⟩, ⟨some 50, .move (.tmp 4), 2, none, true⟩, ⟨some 51, .binOp .lss 3 (.tmp 49) (.tmp 50) 3, 4, none, true⟩])
  (.cond (.tmp 51) .skip (.exit 2)))
  (.seq (.block 3 (.draw (drawOf T.c87 16) [0, 1, 2, 3, 4, 5, 6, 7, 8, 9, 10, 11, 12, 13, 14, 15, 16, 17, 18, 19, 20, 21, 22, 23, 24, 25, 26, 27, 28, 29] [[], [0], [], [], [3], [2, 3, 4], [2, 3, 4, 5], [], [], [8], [8, 9], [7, 8, 9, 10], [7, 8, 9, 10, 11], [], [], [14], [14, 15], [13, 14, 15, 16], [13, 14, 15, 16, 17], [], [], [20], [20, 21], [19, 20, 21, 22], [19, 20, 21, 22, 23], [2, 3, 4, 5, 6, 7, 8, 9, 10, 11, 12, 13, 14, 15, 16, 17, 18, 19, 20, 21, 22, 23, 24], [2, 3, 4, 5, 6, 7, 8, 9, 10, 11, 12, 13, 14, 15, 16, 17, 18, 19, 20, 21, 22, 23, 24, 25], [0, 1, 2, 3, 4, 5, 6, 7, 8, 9, 10, 11, 12, 13, 14, 15, 16, 17, 18, 19, 20, 21, 22, 23, 24, 25, 26], [0, 1, 2, 3, 4, 5, 6, 7, 8, 9, 10, 11, 12, 13, 14, 15, 16, 17, 18, 19, 20, 21, 22, 23, 24, 25, 26, 27], [0, 1, 2, 3, 4, 5, 6, 7, 8, 9, 10, 11, 12, 13, 14, 15, 16, 17, 18, 19, 20, 21, 22, 23, 24, 25, 26, 27, 28]]))
  (.region [⟨some 52, .move (.tmp 11), 3, none, true⟩, ⟨some 53, .binOp .add 3 (.tmp 52) (.const (.int .i64 1)) 3, 3, none, true⟩, ⟨some 11, .assign (.tmp 53), 3, none, true⟩]))))))
  (.seq (.region [⟨some 83, .move (.tmp 6), 97, none, true⟩, ⟨some 84, .move (.tmp 4), 2, none, true⟩, ⟨some 85, .binOp .mul 2 (.const (.int .i64 4)) (.tmp 84) 2, 2, none, true⟩, ⟨some 86, .slice 97 (.tmp 83) (some (.tmp 85)) none none, 97, none, true⟩, ⟨some 6, .assign (.tmp 86), 97, none, true⟩])
  (.seq (.draw (drawOf T.c87 18) [0, 1, 2, 3, 4, 5, 6, 7, 8, 9, 10, 11, 12, 13, 14, 15, 16, 17, 18, 19, 20, 21, 22, 23, 24, 25, 26, 27, 28, 29] [[], [0], [0, 1], [], [3], [3, 4], [], [6], [6, 7], [], [9], [9, 10], [], [12], [12, 13], [], [15], [15, 16], [0, 1, 2], [0, 1, 2, 18], [0, 1, 2, 3, 4, 5, 18, 19], [0, 1, 2, 3, 4, 5, 18, 19, 20], [0, 1, 2, 3, 4, 5, 6, 7, 8, 18, 19, 20, 21], [0, 1, 2, 3, 4, 5, 6, 7, 8, 18, 19, 20, 21, 22], [0, 1, 2, 3, 4, 5, 6, 7, 8, 9, 10, 11, 18, 19, 20, 21, 22, 23], [0, 1, 2, 3, 4, 5, 6, 7, 8, 9, 10, 11, 18, 19, 20, 21, 22, 23, 24], [0, 1, 2, 3, 4, 5, 6, 7, 8, 9, 10, 11, 12, 13, 14, 18, 19, 20, 21, 22, 23, 24, 25], [0, 1, 2, 3, 4, 5, 6, 7, 8, 9, 10, 11, 12, 13, 14, 18, 19, 20, 21, 22, 23, 24, 25, 26], [0, 1, 2, 3, 4, 5, 6, 7, 8, 9, 10, 11, 12, 13, 14, 15, 16, 17, 18, 19, 20, 21, 22, 23, 24, 25, 26, 27], [0, 1, 2, 3, 4, 5, 6, 7, 8, 9, 10, 11, 12, 13, 14, 15, 16, 17, 18, 19, 20, 21, 22, 23, 24, 25, 26, 27, 28]])
  (.seq (.seq (.region [⟨some 111, .move (.tmp 5), 3, none, true⟩, ⟨some 112, .move (.tmp 0), 41, none, true⟩, ⟨some 113, .call (⟨.builtin .len, #[.tmp 112], #[41]⟩), 3, none, true⟩, ⟨some 114, .binOp .neq 3 (.tmp 111) (.tmp 113) 3, 4, none, true⟩, ⟨some 115, .move (.tmp 114), 4, none, true⟩, ⟨some 116, .load 28 (.tmp 10), 28, some (some 115), false⟩, ⟨some 117, .call (⟨.value (.func 49), #[.tmp 116], #[28]⟩), 4, some (some 115), false⟩, ⟨some 118, .unOp .not 4 (.tmp 117), 4, some (some 115), false⟩, ⟨some 119, .pick (.tmp 115) (.const (.bool true)) (.tmp 118), 4, none, true⟩])
  (.cond (.tmp 119) (.seq (.region [⟨some 120, .build 28 #[], 28, none, true⟩, ⟨none, .store 28 (.tmp 2) (.tmp 120), 0, none, true⟩, ⟨some 3, .assign (.const (.int .i64 13)), 34, none, true⟩])
  .ret) .skip))
  (.seq (.region [⟨some 121, .load 28 (.tmp 10), 28, none, true⟩, ⟨none, .store 28 (.tmp 2) (.tmp 121), 0, none, true⟩, ⟨some 3, .assign (.const (.int .i64 0)), 34, none, true⟩])
  .ret))))))))))
noncomputable def f87 : AFn := ⟨122, [.cell 2 28, .tmp 3], b87⟩
/-- novation/novationref4.ReadEvent -/
noncomputable def b88 : AC :=
  .seq (.region [⟨some 2, .alloc 38, 0, none, true⟩, ⟨some 3, .assign (.const (.int .i64 0)), 34, none, true⟩])
  (.seq (.seq (.region [⟨some 10, .move (.tmp 0), 41, none, true⟩, ⟨some 11, .call (⟨.builtin .len, #[.tmp 10], #[41]⟩), 3, none, true⟩, ⟨some 12, .binOp .eql 3 (.tmp 11) (.const (.int .i64 0)) 3, 4, none, true⟩, ⟨some 13, .move (.tmp 12), 4, none, true⟩, ⟨some 14, .move (.tmp 0), 41, some (some 13), false⟩, ⟨some 15, .indexAddr 41 (.tmp 14) (.const (.int .i64 0)), 0, some (some 13), false⟩, ⟨some 16, .load 5 (.tmp 15), 5, some (some 13), false⟩, ⟨some 17, .convert 5 3 (.tmp 16), 3, some (some 13), false⟩, ⟨some 18, .call (⟨.value (.func 83), #[.tmp 17], #[3]⟩), 4, some (some 13), false⟩, ⟨some 19, .unOp .not 4 (.tmp 18), 4, some (some 13), false⟩, ⟨some 20, .pick (.tmp 13) (.const (.bool true)) (.tmp 19), 4, none, true⟩])
  (.cond (.tmp 20) (.seq (.region [⟨some 21, .build 38 #[], 38, none, true⟩, ⟨none, .store 38 (.tmp 2) (.tmp 21), 0, none, true⟩, ⟨some 3, .assign (.const (.int .i64 13)), 34, none, true⟩])
  .ret) .skip))
  (.seq (.region [⟨some 22, .move (.tmp 0), 41, none, true⟩, ⟨some 23, .indexAddr 41 (.tmp 22) (.const (.int .i64 0)), 0, none, true⟩, ⟨some 24, .load 5 (.tmp 23), 5, none, true⟩, ⟨some 25, .convert 5 3 (.tmp 24), 3, none, true⟩, ⟨some 26, .build 38 #[(0, .tmp 25)], 38, none, true⟩, ⟨some 4, .alloc 38, 0, none, true⟩, ⟨none, .store 38 (.tmp 4) (.tmp 26), 0, none, true⟩, ⟨some 5, .assign (.const (.int .i64 1)), 3, none, true⟩])
  (.seq (.region [⟨some 27, .fieldAddr 38 (.tmp 4) 0, 0, none, true⟩, ⟨some 28, .load 3 (.tmp 27), 3, none, true⟩, ⟨some 29, .call (⟨.value (.func 54), #[.tmp 28], #[3]⟩), 9, none, true⟩, ⟨some 6, .assign (.tmp 29), 9, none, true⟩])
  (.seq (.seq (.region [⟨some 7, .assign (.const (.int .i64 0)), 3, none, true⟩])
  (.block 0 (.loop [true, false, true, false, true, true, true, true, false, false, false, false, false, false, false, false, false, false, false, false, false, false, false, false, false, false, false, false, false, false, false, false, false, false, false, false, false, false, false, false, false, false, false, false, false, false, false, false, false, false, false, false, false, false, false, false, false, false, false, false, false, false, false] (.seq (.seq (.region [⟨some 30, .move (.tmp 7), 3, none, true⟩, ⟨some 31, .move (.tmp 6), 9, none, true⟩, ⟨some 32, .call (⟨.builtin .len, #[.tmp 31], #[9]⟩), 3, none, true⟩, ⟨some 33, .binOp .lss 3 (.tmp 30) (.tmp 32) 3, 4, none, true⟩])
  (.cond (.tmp 33) .skip (.exit 0)))
  (.seq (.block 1 (.seq (.region [⟨some 37, .move (.tmp 0), 41, none, true⟩, ⟨some 38, .move (.tmp 5), 3, none, true⟩, ⟨some 39, .call (⟨.value (.func 95), #[.tmp 37, .tmp 38], #[41, 3]⟩), 117, none, true⟩, ⟨some 36, .move (.tmp 39), 117, none, true⟩, ⟨some 40, .extract (.tmp 36) 0, 2, none, true⟩, ⟨some 41, .extract (.tmp 36) 1, 3, none, true⟩, ⟨some 8, .assign (.tmp 40), 2, none, true⟩, ⟨some 9, .assign (.tmp 41), 3, none, true⟩])
  (.seq (.seq (.region [⟨some 42, .move (.tmp 9), 3, none, true⟩, ⟨some 43, .binOp .lss 3 (.tmp 42) (.const (.int .i64 0)) 3, 4, none, true⟩])
  (.cond (.tmp 43) (.seq (.region [⟨some 44, .build 38 #[], 38, none, true⟩, ⟨none, .store 38 (.tmp 2) (.tmp 44), 0, none, true⟩, ⟨some 3, .assign (.const (.int .i64 13)), 34, none, true⟩])
  .ret) .skip))
  (.draw (drawOf T.c88 11) [0, 1, 2, 3, 4, 6, 5, 7, 8] [[], [], [], [1, 2], [], [0, 1, 2, 3, 4], [], [0, 1, 2, 3, 4, 5], [0, 1, 2, 3, 4, 5, 6, 7]]))))
  (.region [⟨some 34, .move (.tmp 7), 3, none, true⟩, ⟨some 35, .binOp .add 3 (.tmp 34) (.const (.int .i64 1)) 3, 3, none, true⟩, ⟨some 7, .assign (.tmp 35), 3, none, true⟩]))))))
  (.seq (.seq (.region [⟨some 52, .move (.tmp 5), 3, none, true⟩, ⟨some 53, .move (.tmp 0), 41, none, true⟩, ⟨some 54, .call (⟨.builtin .len, #[.tmp 53], #[41]⟩), 3, none, true⟩, ⟨some 55, .binOp .neq 3 (.tmp 52) (.tmp 54) 3, 4, none, true⟩, ⟨some 56, .move (.tmp 55), 4, none, true⟩, ⟨some 57, .load 38 (.tmp 4), 38, some (some 56), false⟩, ⟨some 58, .call (⟨.value (.func 53), #[.tmp 57], #[38]⟩), 4, some (some 56), false⟩, ⟨some 59, .unOp .not 4 (.tmp 58), 4, some (some 56), false⟩, ⟨some 60, .pick (.tmp 56) (.const (.bool true)) (.tmp 59), 4, none, true⟩])
  (.cond (.tmp 60) (.seq (.region [⟨some 61, .build 38 #[], 38, none, true⟩, ⟨none, .store 38 (.tmp 2) (.tmp 61), 0, none, true⟩, ⟨some 3, .assign (.const (.int .i64 13)), 34, none, true⟩])
  .ret) .skip))
  (.seq (.region [⟨some 62, .load 38 (.tmp 4), 38, none, true⟩, ⟨none, .store 38 (.tmp 2) (.tmp 62), 0, none, true⟩, ⟨some 3, .assign (.const (.int .i64 0)), 34, none, true⟩])
  .ret))))))
noncomputable def f88 : AFn := ⟨63, [.cell 2 38, .tmp 3], b88⟩
/-- novation/frame.lowFirst -/
noncomputable def b89 : AC :=
  .seq (.region [⟨some 2, .assign (.const (.slice none 0 0)), 41, none, true⟩])
  (.seq (.region [⟨some 3, .move (.tmp 0), 98, none, true⟩, ⟨some 4, .convert 98 5 (.tmp 3), 5, none, true⟩, ⟨some 5, .move (.tmp 0), 98, none, true⟩, ⟨some 6, .binOp .shr 98 (.tmp 5) (.const (.int .u64 8)) 100, 98, none, true⟩, ⟨some 7, .convert 98 5 (.tmp 6), 5, none, true⟩, ⟨some 8, .move (.tmp 0), 98, none, true⟩, ⟨some 9, .binOp .shr 98 (.tmp 8) (.const (.int .u64 16)) 100, 98, none, true⟩, ⟨some 10, .convert 98 5 (.tmp 9), 5, none, true⟩, ⟨some 11, .move (.tmp 0), 98, none, true⟩, ⟨some 12, .binOp .shr 98 (.tmp 11) (.const (.int .u64 24)) 100, 98, none, true⟩, ⟨some 13, .convert 98 5 (.tmp 12), 5, none, true⟩, ⟨some 14, .buildSlice 41 4 #[(0, .tmp 4), (1, .tmp 7), (2, .tmp 10), (3, .tmp 13)], 41, none, true⟩, ⟨some 2, .assign (.tmp 14), 41, none, true⟩])
  .ret)
noncomputable def f89 : AFn := ⟨15, [.tmp 2], b89⟩
/-- novation/frame.Sum -/
noncomputable def b90 : AC :=
  .seq (.region [⟨some 2, .assign (.const (.int .u32 0)), 98, none, true⟩])
  (.seq (.region [⟨some 3, .assign (.const (.int .u32 4294967295)), 98, none, true⟩])
  (.seq (.seq (.region [⟨some 7, .move (.tmp 0), 41, none, true⟩, ⟨some 8, .call (⟨.builtin .len, #[.tmp 7], #[41]⟩), 3, none, true⟩, ⟨some 9, .move (.const (.int .i64 0)), 3, none, true⟩])
  (.block 0 (.loop [false, false, false, true, false, false, false, true, true, true, false, false, false, false, false, false, false, false, false, false, false, false, false, false, false, false, false, false, false, false, false] (.seq (.region [⟨some 10, .binOp .lss 3 (.tmp 9) (.tmp 8) 3, 0, none, true⟩])
  (.seq (.cond (.tmp 10) .skip (.exit 0))
  (.seq (.block 1 (.seq (.region [⟨some 11, .indexAddr 41 (.tmp 7) (.tmp 9), 0, none, true⟩, ⟨some 12, .load 5 (.tmp 11), 5, none, true⟩, ⟨some 5, .assign (.tmp 12), 5, none, true⟩])
  (.seq (.region [⟨some 13, .move (.tmp 3), 98, none, true⟩, ⟨some 14, .move (.tmp 5), 5, none, true⟩, ⟨some 15, .convert 5 98 (.tmp 14), 98, none, true⟩, ⟨some 16, .binOp .xor 98 (.tmp 13) (.tmp 15) 98, 98, none, true⟩, ⟨some 3, .assign (.tmp 16), 98, none, true⟩])
  (.seq (.region [⟨some 17, .move (.const (.int .i64 0)), 3, none, true⟩])
  (.block 2 (.loop [false, false, false, true, false, false, false, true, true, true, false, false, false, false, false, false, false, true, false, false, false, false, false, false, false, false, false, false, false, false, false] (.seq (.region [⟨some 18, .binOp .lss 3 (.tmp 17) (.const (.int .i64 8)) 3, 4, none, true⟩])
  (.seq (.cond (.tmp 18) .skip (.exit 2))
  (.seq (.block 3 (.seq (.region [⟨some 19, .move (.tmp 3), 98, none, true⟩, ⟨some 20, .binOp .and 98 (.tmp 19) (.const (.int .u32 1)) 98, 98, none, true⟩, ⟨some 6, .assign (.tmp 20), 98, none, true⟩])
  (.seq (.region [⟨some 21, .move (.tmp 3), 98, none, true⟩, ⟨some 22, .binOp .shr 98 (.tmp 21) (.const (.int .u64 1)) 100, 98, none, true⟩, ⟨some 3, .assign (.tmp 22), 98, none, true⟩])
  (.seq (.region [⟨some 23, .move (.tmp 6), 98, none, true⟩, ⟨some 24, .binOp .eql 98 (.tmp 23) (.const (.int .u32 1)) 98, 4, none, true⟩])
  (.cond (.tmp 24) (.region [⟨some 25, .move (.tmp 3), 98, none, true⟩, ⟨some 26, .binOp .xor 98 (.tmp 25) (.const (.int .u32 3988292384)) 98, 98, none, true⟩, ⟨some 3, .assign (.tmp 26), 98, none, true⟩]) .skip)))))
  (.region [⟨some 27, .binOp .add 3 (.tmp 17) (.const (.int .i64 1)) 3, 3, none, true⟩, ⟨some 17, .move (.tmp 27), 3, none, true⟩]))))))))))
  (.region [⟨some 28, .binOp .add 3 (.tmp 9) (.const (.int .i64 1)) 3, 3, none, true⟩, ⟨some 9, .move (.tmp 28), 3, none, true⟩])))))))
  (.seq (.region [⟨some 29, .move (.tmp 3), 98, none, true⟩, ⟨some 30, .unOp .xor 98 (.tmp 29), 98, none, true⟩, ⟨some 2, .assign (.tmp 30), 98, none, true⟩])
  .ret)))
noncomputable def f90 : AFn := ⟨31, [.tmp 2], b90⟩
/-- novation/event.bounds -/
noncomputable def b91 : AC :=
  .seq (.region [⟨some 4, .assign (.const (.int .i64 0)), 2, none, true⟩, ⟨some 5, .assign (.const (.int .i64 0)), 2, none, true⟩])
  (.seq (.seq (.region [⟨some 6, .move (.tmp 1), 5, none, true⟩])
  (.block 0 (.seq (.region [⟨some 8, .binOp .eql 5 (.tmp 6) (.const (.int .u8 77)) 5, 4, none, true⟩, ⟨some 7, .assign (.tmp 8), 4, none, true⟩])
  (.cond (.tmp 7) (.seq (.region [⟨some 4, .assign (.const (.int .i64 1)), 2, none, true⟩, ⟨some 5, .assign (.const (.int .i64 12)), 2, none, true⟩])
  .ret) (.seq (.region [⟨some 10, .binOp .eql 5 (.tmp 6) (.const (.int .u8 65)) 5, 4, none, true⟩, ⟨some 9, .assign (.tmp 10), 4, none, true⟩])
  (.cond (.tmp 9) (.seq (.region [⟨some 4, .assign (.const (.int .i64 1)), 2, none, true⟩, ⟨some 5, .assign (.const (.int .i64 24)), 2, none, true⟩])
  .ret) (.seq (.region [⟨some 12, .binOp .eql 5 (.tmp 6) (.const (.int .u8 73)) 5, 4, none, true⟩, ⟨some 11, .assign (.tmp 12), 4, none, true⟩])
  (.cond (.tmp 11) (.seq (.region [⟨some 4, .assign (.const (.int .i64 0)), 2, none, true⟩, ⟨some 5, .assign (.const (.int .i64 5)), 2, none, true⟩])
  .ret) (.seq (.region [⟨some 14, .binOp .eql 5 (.tmp 6) (.const (.int .u8 83)) 5, 4, none, true⟩, ⟨some 13, .assign (.tmp 14), 4, none, true⟩])
  (.cond (.tmp 13) (.seq (.region [⟨some 4, .assign (.const (.int .i64 1)), 2, none, true⟩, ⟨some 5, .assign (.const (.int .i64 2)), 2, none, true⟩])
  .ret) (.seq (.region [⟨some 16, .binOp .eql 5 (.tmp 6) (.const (.int .u8 68)) 5, 4, none, true⟩, ⟨some 15, .assign (.tmp 16), 4, none, true⟩])
  (.cond (.tmp 15) (.seq (.region [⟨some 4, .assign (.const (.int .i64 1)), 2, none, true⟩, ⟨some 5, .assign (.const (.int .i64 1099511627776)), 2, none, true⟩])
  .ret) .skip))))))))))))
  (.seq (.block 1 (.seq (.region [⟨some 18, .move (.tmp 1), 5, none, true⟩, ⟨some 19, .binOp .eql 5 (.tmp 18) (.const (.int .u8 80)) 5, 4, none, true⟩, ⟨some 20, .move (.tmp 19), 4, none, true⟩, ⟨some 21, .move (.tmp 0), 3, some (some 20), true⟩, ⟨some 22, .binOp .eql 3 (.tmp 21) (.const (.int .i64 19)) 3, 4, some (some 20), true⟩, ⟨some 23, .pick (.tmp 20) (.tmp 22) (.const (.bool false)), 4, none, true⟩, ⟨some 17, .assign (.tmp 23), 4, none, true⟩])
  (.cond (.tmp 17) (.seq (.region [⟨some 4, .assign (.const (.int .i64 (-1152921504606846976))), 2, none, true⟩, ⟨some 5, .assign (.const (.int .i64 1152921504606846976)), 2, none, true⟩])
  .ret) (.seq (.region [⟨some 25, .move (.tmp 1), 5, none, true⟩, ⟨some 26, .binOp .eql 5 (.tmp 25) (.const (.int .u8 80)) 5, 4, none, true⟩, ⟨some 24, .assign (.tmp 26), 4, none, true⟩])
  (.cond (.tmp 24) (.seq (.region [⟨some 4, .assign (.const (.int .i64 1)), 2, none, true⟩, ⟨some 5, .assign (.const (.int .i64 1000000000000)), 2, none, true⟩])
  .ret) (.seq (.region [⟨some 28, .move (.tmp 0), 3, none, true⟩, ⟨some 29, .binOp .eql 3 (.tmp 28) (.const (.int .i64 6)) 3, 4, none, true⟩, ⟨some 27, .assign (.tmp 29), 4, none, true⟩])
  (.cond (.tmp 27) (.seq (.region [⟨some 4, .assign (.const (.int .i64 0)), 2, none, true⟩, ⟨some 5, .assign (.const (.int .i64 1000000000000)), 2, none, true⟩])
  .ret) (.seq (.region [⟨some 31, .move (.tmp 0), 3, none, true⟩, ⟨some 32, .binOp .eql 3 (.tmp 31) (.const (.int .i64 10)) 3, 4, none, true⟩, ⟨some 30, .assign (.tmp 32), 4, none, true⟩])
  (.cond (.tmp 30) (.seq (.region [⟨some 4, .assign (.const (.int .i64 1)), 2, none, true⟩, ⟨some 5, .assign (.const (.int .i64 1000000)), 2, none, true⟩])
  .ret) (.seq (.region [⟨some 34, .move (.tmp 0), 3, none, true⟩, ⟨some 35, .binOp .eql 3 (.tmp 34) (.const (.int .i64 7)) 3, 4, none, true⟩, ⟨some 36, .move (.tmp 35), 4, none, true⟩, ⟨some 37, .move (.tmp 0), 3, some (some 36), false⟩, ⟨some 38, .binOp .eql 3 (.tmp 37) (.const (.int .i64 17)) 3, 4, some (some 36), false⟩, ⟨some 39, .pick (.tmp 36) (.const (.bool true)) (.tmp 38), 4, none, true⟩, ⟨some 33, .assign (.tmp 39), 4, none, true⟩])
  (.cond (.tmp 33) (.seq (.region [⟨some 4, .assign (.const (.int .i64 1)), 2, none, true⟩, ⟨some 5, .assign (.const (.int .i64 1000000000)), 2, none, true⟩])
  .ret) .skip)))))))))))
  (.seq (.region [⟨some 4, .assign (.const (.int .i64 1)), 2, none, true⟩, ⟨some 5, .assign (.const (.int .i64 9223372036854775807)), 2, none, true⟩])
  .ret)))
noncomputable def f91 : AFn := ⟨40, [.tmp 4, .tmp 5], b91⟩
/-- slices.Chunk[[]int64,int64]$1 -/
noncomputable def b92 : AC :=
  .seq (.region [⟨some 4, .assign (.const (.int .i64 0)), 3, none, true⟩])
  (.block 0 (.loop [true, true, true, false, true, false, false, false, false, false, false, false, false, false, false, false, false, false, false, false, false, false, false, false, false, false, false, false, false, false, false] (.seq (.seq (.region [⟨some 6, .move (.tmp 4), 3, none, true⟩, ⟨some 7, .load 97 (.tmp 1), 97, none, true⟩, ⟨some 8, .call (⟨.builtin .len, #[.tmp 7], #[97]⟩), 3, none, true⟩, ⟨some 9, .binOp .lss 3 (.tmp 6) (.tmp 8) 3, 4, none, true⟩])
  (.cond (.tmp 9) .skip (.exit 0)))
  (.seq (.block 1 (.seq (.draw (drawOf T.c92 3) [0, 1, 2, 3, 4, 5, 6] [[], [], [], [1, 2], [1, 2, 3], [0, 1, 2, 3, 4], [0, 1, 2, 3, 4, 5]])
  (.seq (.region [⟨some 19, .move (.tmp 0), 128, none, true⟩, ⟨some 20, .load 97 (.tmp 1), 97, none, true⟩, ⟨some 21, .move (.tmp 4), 3, none, true⟩, ⟨some 22, .move (.tmp 4), 3, none, true⟩, ⟨some 23, .move (.tmp 5), 3, none, true⟩, ⟨some 24, .binOp .add 3 (.tmp 22) (.tmp 23) 3, 3, none, true⟩, ⟨some 25, .move (.tmp 4), 3, none, true⟩, ⟨some 26, .move (.tmp 5), 3, none, true⟩, ⟨some 27, .binOp .add 3 (.tmp 25) (.tmp 26) 3, 3, none, true⟩, ⟨some 28, .slice 97 (.tmp 20) (some (.tmp 21)) (some (.tmp 24)) (some (.tmp 27)), 97, none, true⟩, ⟨some 29, .call (⟨.value (.tmp 19), #[.tmp 28], #[97]⟩), 4, none, true⟩, ⟨some 30, .unOp .not 4 (.tmp 29), 4, none, true⟩])
  (.cond (.tmp 30) .ret .skip))))
  (.region [⟨some 10, .move (.tmp 4), 3, none, true⟩, ⟨some 11, .load 3 (.tmp 2), 3, none, true⟩, ⟨some 12, .binOp .add 3 (.tmp 10) (.tmp 11) 3, 3, none, true⟩, ⟨some 4, .assign (.tmp 12), 3, none, true⟩])))))
noncomputable def f92 : AFn := ⟨31, [], b92⟩
/-- novation/novationref4.quantities -/
noncomputable def b93 : AC :=
  .seq (.region [⟨some 2, .assign (.const (.int .i64 0)), 2, none, true⟩, ⟨some 3, .assign (.const (.int .i64 0)), 2, none, true⟩])
  (.seq (.seq (.region [⟨some 4, .move (.tmp 0), 3, none, true⟩])
  (.block 0 (.seq (.region [⟨some 6, .binOp .eql 3 (.tmp 4) (.const (.int .i64 6)) 3, 4, none, true⟩, ⟨some 5, .assign (.tmp 6), 4, none, true⟩])
  (.cond (.tmp 5) (.seq (.region [⟨some 2, .assign (.const (.int .i64 0)), 2, none, true⟩, ⟨some 3, .assign (.const (.int .i64 1000000000000)), 2, none, true⟩])
  .ret) (.seq (.seq (.region [⟨some 8, .binOp .eql 3 (.tmp 4) (.const (.int .i64 7)) 3, 4, none, true⟩, ⟨some 7, .assign (.tmp 8), 4, none, true⟩])
  (.cond (.tmp 7) .skip (.region [⟨some 9, .binOp .eql 3 (.tmp 4) (.const (.int .i64 17)) 3, 4, none, true⟩, ⟨some 7, .assign (.tmp 9), 4, none, true⟩])))
  (.cond (.tmp 7) (.seq (.region [⟨some 2, .assign (.const (.int .i64 1)), 2, none, true⟩, ⟨some 3, .assign (.const (.int .i64 1000000000)), 2, none, true⟩])
  .ret) (.seq (.region [⟨some 11, .binOp .eql 3 (.tmp 4) (.const (.int .i64 10)) 3, 4, none, true⟩, ⟨some 10, .assign (.tmp 11), 4, none, true⟩])
  (.cond (.tmp 10) (.seq (.region [⟨some 2, .assign (.const (.int .i64 1)), 2, none, true⟩, ⟨some 3, .assign (.const (.int .i64 1000000)), 2, none, true⟩])
  .ret) .skip))))))))
  (.seq (.region [⟨some 2, .assign (.const (.int .i64 1)), 2, none, true⟩, ⟨some 3, .assign (.const (.int .i64 9223372036854775807)), 2, none, true⟩])
  .ret))
noncomputable def f93 : AFn := ⟨12, [.tmp 2, .tmp 3], b93⟩
/-- novation/novationref4.prices -/
noncomputable def b94 : AC :=
  .seq (.region [⟨some 2, .assign (.const (.int .i64 0)), 2, none, true⟩, ⟨some 3, .assign (.const (.int .i64 0)), 2, none, true⟩])
  (.seq (.seq (.region [⟨some 4, .move (.tmp 0), 3, none, true⟩, ⟨some 5, .binOp .eql 3 (.tmp 4) (.const (.int .i64 19)) 3, 4, none, true⟩])
  (.cond (.tmp 5) (.seq (.region [⟨some 2, .assign (.const (.int .i64 (-1152921504606846976))), 2, none, true⟩, ⟨some 3, .assign (.const (.int .i64 1152921504606846976)), 2, none, true⟩])
  .ret) .skip))
  (.seq (.region [⟨some 2, .assign (.const (.int .i64 1)), 2, none, true⟩, ⟨some 3, .assign (.const (.int .i64 1000000000000)), 2, none, true⟩])
  .ret))
noncomputable def f94 : AFn := ⟨6, [.tmp 2, .tmp 3], b94⟩
/-- novation/novationref4.number -/
noncomputable def b95 : AC :=
  .seq (.region [⟨some 4, .assign (.const (.int .i64 0)), 2, none, true⟩, ⟨some 5, .assign (.const (.int .i64 0)), 3, none, true⟩])
  (.seq (.region [⟨some 6, .assign (.const (.int .u64 0)), 70, none, true⟩])
  (.seq (.seq (.region [⟨some 7, .assign (.const (.int .i64 0)), 3, none, true⟩])
  (.block 0 (.loop [true, true, false, false, false, false, true, true, false, false, false, false, false, false, false, false, false, false, false, false, false, false, false, false, false, false, false, false, false, false, false, false, false, false, false, false, false, false, false, false, false, false, false, false, false, false, false, false, false, false, false, false, false, false, false, false, false, false, false, false, false, false, false, false, false, false, false, false, false, false] (.seq (.seq (.region [⟨some 9, .move (.tmp 7), 3, none, true⟩, ⟨some 10, .binOp .lss 3 (.tmp 9) (.const (.int .i64 10)) 3, 4, none, true⟩, ⟨some 11, .move (.tmp 10), 4, none, true⟩, ⟨some 12, .move (.tmp 1), 3, some (some 11), true⟩, ⟨some 13, .move (.tmp 7), 3, some (some 11), true⟩, ⟨some 14, .binOp .add 3 (.tmp 12) (.tmp 13) 3, 3, some (some 11), true⟩, ⟨some 15, .move (.tmp 0), 41, some (some 11), true⟩, ⟨some 16, .call (⟨.builtin .len, #[.tmp 15], #[41]⟩), 3, some (some 11), true⟩, ⟨some 17, .binOp .lss 3 (.tmp 14) (.tmp 16) 3, 4, some (some 11), true⟩, ⟨some 18, .pick (.tmp 11) (.tmp 17) (.const (.bool false)), 4, none, true⟩])
  (.cond (.tmp 18) .skip (.exit 0)))
  (.seq (.block 1 (.seq (.region [⟨some 21, .move (.tmp 0), 41, none, true⟩, ⟨some 22, .move (.tmp 1), 3, none, true⟩, ⟨some 23, .move (.tmp 7), 3, none, true⟩, ⟨some 24, .binOp .add 3 (.tmp 22) (.tmp 23) 3, 3, none, true⟩, ⟨some 25, .indexAddr 41 (.tmp 21) (.tmp 24), 0, none, true⟩, ⟨some 26, .load 5 (.tmp 25), 5, none, true⟩, ⟨some 8, .assign (.tmp 26), 5, none, true⟩])
  (.seq (.seq (.region [⟨some 27, .move (.tmp 7), 3, none, true⟩, ⟨some 28, .binOp .eql 3 (.tmp 27) (.const (.int .i64 9)) 3, 4, none, true⟩, ⟨some 29, .move (.tmp 28), 4, none, true⟩, ⟨some 30, .move (.tmp 8), 5, some (some 29), true⟩, ⟨some 31, .binOp .gtr 5 (.tmp 30) (.const (.int .u8 1)) 5, 4, some (some 29), true⟩, ⟨some 32, .pick (.tmp 29) (.tmp 31) (.const (.bool false)), 4, none, true⟩, ⟨some 33, .move (.tmp 32), 4, none, true⟩, ⟨some 34, .move (.tmp 8), 5, some (some 33), false⟩, ⟨some 35, .binOp .eql 5 (.tmp 34) (.const (.int .u8 0)) 5, 4, some (some 33), false⟩, ⟨some 36, .move (.tmp 35), 4, some (some 33), false⟩, ⟨some 37, .move (.tmp 7), 3, some (some 36), true⟩, ⟨some 38, .binOp .gtr 3 (.tmp 37) (.const (.int .i64 0)) 3, 4, some (some 36), true⟩, ⟨some 39, .pick (.tmp 36) (.tmp 38) (.const (.bool false)), 4, some (some 33), false⟩, ⟨some 40, .pick (.tmp 33) (.const (.bool true)) (.tmp 39), 4, none, true⟩])
  (.cond (.tmp 40) (.seq (.region [⟨some 4, .assign (.const (.int .i64 0)), 2, none, true⟩, ⟨some 5, .assign (.const (.int .i64 (-1))), 3, none, true⟩])
  .ret) .skip))
  (.seq (.region [⟨some 41, .move (.tmp 6), 70, none, true⟩, ⟨some 42, .move (.tmp 8), 5, none, true⟩, ⟨some 43, .binOp .and 5 (.tmp 42) (.const (.int .u8 127)) 5, 5, none, true⟩, ⟨some 44, .convert 5 70 (.tmp 43), 70, none, true⟩, ⟨some 45, .move (.tmp 7), 3, none, true⟩, ⟨some 46, .binOp .mul 3 (.const (.int .i64 7)) (.tmp 45) 3, 3, none, true⟩, ⟨some 47, .binOp .shl 70 (.tmp 44) (.tmp 46) 3, 70, none, true⟩, ⟨some 48, .binOp .or 70 (.tmp 41) (.tmp 47) 70, 70, none, true⟩, ⟨some 6, .assign (.tmp 48), 70, none, true⟩])
  (.seq (.region [⟨some 49, .move (.tmp 8), 5, none, true⟩, ⟨some 50, .binOp .lss 5 (.tmp 49) (.const (.int .u8 128)) 5, 4, none, true⟩])
  (.cond (.tmp 50) (.seq (.seq (.region [⟨some 51, .move (.tmp 6), 70, none, true⟩, ⟨some 52, .binOp .and 70 (.tmp 51) (.const (.int .u64 1)) 70, 70, none, true⟩, ⟨some 53, .binOp .eql 70 (.tmp 52) (.const (.int .u64 1)) 70, 4, none, true⟩])
  (.cond (.tmp 53) (.seq (.region [⟨some 54, .move (.tmp 6), 70, none, true⟩, ⟨some 55, .binOp .shr 70 (.tmp 54) (.const (.int .u64 1)) 100, 70, none, true⟩, ⟨some 56, .convert 70 2 (.tmp 55), 2, none, true⟩, ⟨some 57, .unOp .neg 2 (.tmp 56), 2, none, true⟩, ⟨some 58, .binOp .sub 2 (.tmp 57) (.const (.int .i64 1)) 2, 2, none, true⟩, ⟨some 59, .move (.tmp 1), 3, none, true⟩, ⟨some 60, .move (.tmp 7), 3, none, true⟩, ⟨some 61, .binOp .add 3 (.tmp 59) (.tmp 60) 3, 3, none, true⟩, ⟨some 62, .binOp .add 3 (.tmp 61) (.const (.int .i64 1)) 3, 3, none, true⟩, ⟨some 4, .assign (.tmp 58), 2, none, true⟩, ⟨some 5, .assign (.tmp 62), 3, none, true⟩])
  .ret) .skip))
  (.seq (.region [⟨some 63, .move (.tmp 6), 70, none, true⟩, ⟨some 64, .binOp .shr 70 (.tmp 63) (.const (.int .u64 1)) 100, 70, none, true⟩, ⟨some 65, .convert 70 2 (.tmp 64), 2, none, true⟩, ⟨some 66, .move (.tmp 1), 3, none, true⟩, ⟨some 67, .move (.tmp 7), 3, none, true⟩, ⟨some 68, .binOp .add 3 (.tmp 66) (.tmp 67) 3, 3, none, true⟩, ⟨some 69, .binOp .add 3 (.tmp 68) (.const (.int .i64 1)) 3, 3, none, true⟩, ⟨some 4, .assign (.tmp 65), 2, none, true⟩, ⟨some 5, .assign (.tmp 69), 3, none, true⟩])
  .ret)) .skip))))))
  (.region [⟨some 19, .move (.tmp 7), 3, none, true⟩, ⟨some 20, .binOp .add 3 (.tmp 19) (.const (.int .i64 1)) 3, 3, none, true⟩, ⟨some 7, .assign (.tmp 20), 3, none, true⟩]))))))
  (.seq (.region [⟨some 4, .assign (.const (.int .i64 0)), 2, none, true⟩, ⟨some 5, .assign (.const (.int .i64 (-1))), 3, none, true⟩])
  .ret)))
noncomputable def f95 : AFn := ⟨70, [.tmp 4, .tmp 5], b95⟩
def tys : List (Nat × TI) := [(1, t1), (2, t2), (3, t3), (4, t4), (5, t5), (6, t6), (7, t7), (9, t9), (22, t22), (24, t24), (26, t26), (28, t28), (30, t30), (32, t32), (34, t34), (38, t38), (41, t41), (45, t45), (50, t50), (52, t52), (57, t57), (69, t69), (70, t70), (72, t72), (76, t76), (78, t78), (81, t81), (92, t92), (94, t94), (97, t97), (98, t98), (106, t106)]
noncomputable def fns : List (Nat × AFn) := [(3, f3), (4, f4), (5, f5), (6, f6), (7, f7), (8, f8), (9, f9), (10, f10), (11, f11), (12, f12), (13, f13), (14, f14), (15, f15), (16, f16), (17, f17), (18, f18), (19, f19), (20, f20), (21, f21), (22, f22), (23, f23), (24, f24), (25, f25), (26, f26), (27, f27), (28, f28), (29, f29), (30, f30), (31, f31), (32, f32), (33, f33), (34, f34), (35, f35), (36, f36), (37, f37), (38, f38), (39, f39), (40, f40), (41, f41), (42, f42), (43, f43), (44, f44), (45, f45), (46, f46), (47, f47), (48, f48), (49, f49), (50, f50), (51, f51), (52, f52), (53, f53), (54, f54), (55, f55), (56, f56), (57, f57), (58, f58), (59, f59), (60, f60), (61, f61), (62, f62), (63, f63), (64, f64), (65, f65), (66, f66), (67, f67), (68, f68), (69, f69), (70, f70), (71, f71), (72, f72), (73, f73), (74, f74), (75, f75), (76, f76), (77, f77), (78, f78), (79, f79), (80, f80), (81, f81), (82, f82), (83, f83), (84, f84), (85, f85), (86, f86), (87, f87), (88, f88), (89, f89), (90, f90), (91, f91), (92, f92), (93, f93), (94, f94), (95, f95)]
noncomputable def ap0 : AP := { ty := fun t => tys.lookup t, fn := fun f => fns.lookup f, prim := fun _ => none }
def gcs : List Nat := []
noncomputable def ap : AP := { ap0 with prim := fun _ => none }
theorem ty1 : ap.ty 1 = some t1 := by kernel_rfl
theorem ty2 : ap.ty 2 = some t2 := by kernel_rfl
theorem ty3 : ap.ty 3 = some t3 := by kernel_rfl
theorem ty4 : ap.ty 4 = some t4 := by kernel_rfl
theorem ty5 : ap.ty 5 = some t5 := by kernel_rfl
theorem ty6 : ap.ty 6 = some t6 := by kernel_rfl
theorem ty7 : ap.ty 7 = some t7 := by kernel_rfl
theorem ty9 : ap.ty 9 = some t9 := by kernel_rfl
theorem ty22 : ap.ty 22 = some t22 := by kernel_rfl
theorem ty24 : ap.ty 24 = some t24 := by kernel_rfl
theorem ty26 : ap.ty 26 = some t26 := by kernel_rfl
theorem ty28 : ap.ty 28 = some t28 := by kernel_rfl
theorem ty30 : ap.ty 30 = some t30 := by kernel_rfl
theorem ty32 : ap.ty 32 = some t32 := by kernel_rfl
theorem ty34 : ap.ty 34 = some t34 := by kernel_rfl
theorem ty38 : ap.ty 38 = some t38 := by kernel_rfl
theorem ty41 : ap.ty 41 = some t41 := by kernel_rfl
theorem ty45 : ap.ty 45 = some t45 := by kernel_rfl
theorem ty50 : ap.ty 50 = some t50 := by kernel_rfl
theorem ty52 : ap.ty 52 = some t52 := by kernel_rfl
theorem ty57 : ap.ty 57 = some t57 := by kernel_rfl
theorem ty69 : ap.ty 69 = some t69 := by kernel_rfl
theorem ty70 : ap.ty 70 = some t70 := by kernel_rfl
theorem ty72 : ap.ty 72 = some t72 := by kernel_rfl
theorem ty76 : ap.ty 76 = some t76 := by kernel_rfl
theorem ty78 : ap.ty 78 = some t78 := by kernel_rfl
theorem ty81 : ap.ty 81 = some t81 := by kernel_rfl
theorem ty92 : ap.ty 92 = some t92 := by kernel_rfl
theorem ty94 : ap.ty 94 = some t94 := by kernel_rfl
theorem ty97 : ap.ty 97 = some t97 := by kernel_rfl
theorem ty98 : ap.ty 98 = some t98 := by kernel_rfl
theorem ty106 : ap.ty 106 = some t106 := by kernel_rfl
theorem fn3 : ap.fn 3 = some f3 := by kernel_rfl
theorem fn4 : ap.fn 4 = some f4 := by kernel_rfl
theorem fn5 : ap.fn 5 = some f5 := by kernel_rfl
theorem fn6 : ap.fn 6 = some f6 := by kernel_rfl
theorem fn7 : ap.fn 7 = some f7 := by kernel_rfl
theorem fn8 : ap.fn 8 = some f8 := by kernel_rfl
theorem fn9 : ap.fn 9 = some f9 := by kernel_rfl
theorem fn10 : ap.fn 10 = some f10 := by kernel_rfl
theorem fn11 : ap.fn 11 = some f11 := by kernel_rfl
theorem fn12 : ap.fn 12 = some f12 := by kernel_rfl
theorem fn13 : ap.fn 13 = some f13 := by kernel_rfl
theorem fn14 : ap.fn 14 = some f14 := by kernel_rfl
theorem fn15 : ap.fn 15 = some f15 := by kernel_rfl
theorem fn16 : ap.fn 16 = some f16 := by kernel_rfl
theorem fn17 : ap.fn 17 = some f17 := by kernel_rfl
theorem fn18 : ap.fn 18 = some f18 := by kernel_rfl
theorem fn19 : ap.fn 19 = some f19 := by kernel_rfl
theorem fn20 : ap.fn 20 = some f20 := by kernel_rfl
theorem fn21 : ap.fn 21 = some f21 := by kernel_rfl
theorem fn22 : ap.fn 22 = some f22 := by kernel_rfl
theorem fn23 : ap.fn 23 = some f23 := by kernel_rfl
theorem fn24 : ap.fn 24 = some f24 := by kernel_rfl
theorem fn25 : ap.fn 25 = some f25 := by kernel_rfl
theorem fn26 : ap.fn 26 = some f26 := by kernel_rfl
theorem fn27 : ap.fn 27 = some f27 := by kernel_rfl
theorem fn28 : ap.fn 28 = some f28 := by kernel_rfl
theorem fn29 : ap.fn 29 = some f29 := by kernel_rfl
theorem fn30 : ap.fn 30 = some f30 := by kernel_rfl
theorem fn31 : ap.fn 31 = some f31 := by kernel_rfl
theorem fn32 : ap.fn 32 = some f32 := by kernel_rfl
theorem fn33 : ap.fn 33 = some f33 := by kernel_rfl
theorem fn34 : ap.fn 34 = some f34 := by kernel_rfl
theorem fn35 : ap.fn 35 = some f35 := by kernel_rfl
theorem fn36 : ap.fn 36 = some f36 := by kernel_rfl
theorem fn37 : ap.fn 37 = some f37 := by kernel_rfl
theorem fn38 : ap.fn 38 = some f38 := by kernel_rfl
theorem fn39 : ap.fn 39 = some f39 := by kernel_rfl
theorem fn40 : ap.fn 40 = some f40 := by kernel_rfl
theorem fn41 : ap.fn 41 = some f41 := by kernel_rfl
theorem fn42 : ap.fn 42 = some f42 := by kernel_rfl
theorem fn43 : ap.fn 43 = some f43 := by kernel_rfl
theorem fn44 : ap.fn 44 = some f44 := by kernel_rfl
theorem fn45 : ap.fn 45 = some f45 := by kernel_rfl
theorem fn46 : ap.fn 46 = some f46 := by kernel_rfl
theorem fn47 : ap.fn 47 = some f47 := by kernel_rfl
theorem fn48 : ap.fn 48 = some f48 := by kernel_rfl
theorem fn49 : ap.fn 49 = some f49 := by kernel_rfl
theorem fn50 : ap.fn 50 = some f50 := by kernel_rfl
theorem fn51 : ap.fn 51 = some f51 := by kernel_rfl
theorem fn52 : ap.fn 52 = some f52 := by kernel_rfl
theorem fn53 : ap.fn 53 = some f53 := by kernel_rfl
theorem fn54 : ap.fn 54 = some f54 := by kernel_rfl
theorem fn55 : ap.fn 55 = some f55 := by kernel_rfl
theorem fn56 : ap.fn 56 = some f56 := by kernel_rfl
theorem fn57 : ap.fn 57 = some f57 := by kernel_rfl
theorem fn58 : ap.fn 58 = some f58 := by kernel_rfl
theorem fn59 : ap.fn 59 = some f59 := by kernel_rfl
theorem fn60 : ap.fn 60 = some f60 := by kernel_rfl
theorem fn61 : ap.fn 61 = some f61 := by kernel_rfl
theorem fn62 : ap.fn 62 = some f62 := by kernel_rfl
theorem fn63 : ap.fn 63 = some f63 := by kernel_rfl
theorem fn64 : ap.fn 64 = some f64 := by kernel_rfl
theorem fn65 : ap.fn 65 = some f65 := by kernel_rfl
theorem fn66 : ap.fn 66 = some f66 := by kernel_rfl
theorem fn67 : ap.fn 67 = some f67 := by kernel_rfl
theorem fn68 : ap.fn 68 = some f68 := by kernel_rfl
theorem fn69 : ap.fn 69 = some f69 := by kernel_rfl
theorem fn70 : ap.fn 70 = some f70 := by kernel_rfl
theorem fn71 : ap.fn 71 = some f71 := by kernel_rfl
theorem fn72 : ap.fn 72 = some f72 := by kernel_rfl
theorem fn73 : ap.fn 73 = some f73 := by kernel_rfl
theorem fn74 : ap.fn 74 = some f74 := by kernel_rfl
theorem fn75 : ap.fn 75 = some f75 := by kernel_rfl
theorem fn76 : ap.fn 76 = some f76 := by kernel_rfl
theorem fn77 : ap.fn 77 = some f77 := by kernel_rfl
theorem fn78 : ap.fn 78 = some f78 := by kernel_rfl
theorem fn79 : ap.fn 79 = some f79 := by kernel_rfl
theorem fn80 : ap.fn 80 = some f80 := by kernel_rfl
theorem fn81 : ap.fn 81 = some f81 := by kernel_rfl
theorem fn82 : ap.fn 82 = some f82 := by kernel_rfl
theorem fn83 : ap.fn 83 = some f83 := by kernel_rfl
theorem fn84 : ap.fn 84 = some f84 := by kernel_rfl
theorem fn85 : ap.fn 85 = some f85 := by kernel_rfl
theorem fn86 : ap.fn 86 = some f86 := by kernel_rfl
theorem fn87 : ap.fn 87 = some f87 := by kernel_rfl
theorem fn88 : ap.fn 88 = some f88 := by kernel_rfl
theorem fn89 : ap.fn 89 = some f89 := by kernel_rfl
theorem fn90 : ap.fn 90 = some f90 := by kernel_rfl
theorem fn91 : ap.fn 91 = some f91 := by kernel_rfl
theorem fn92 : ap.fn 92 = some f92 := by kernel_rfl
theorem fn93 : ap.fn 93 = some f93 := by kernel_rfl
theorem fn94 : ap.fn 94 = some f94 := by kernel_rfl
theorem fn95 : ap.fn 95 = some f95 := by kernel_rfl
theorem types : ∀ x ∈ tys, tiOf Try.prog x.1 = some x.2 := by
  simp only [tys, List.forall_mem_cons]
  exact ⟨by kernel_rfl, by kernel_rfl, by kernel_rfl, by kernel_rfl, by kernel_rfl, by kernel_rfl, by kernel_rfl, by kernel_rfl, by kernel_rfl, by kernel_rfl, by kernel_rfl, by kernel_rfl, by kernel_rfl, by kernel_rfl, by kernel_rfl, by kernel_rfl, by kernel_rfl, by kernel_rfl, by kernel_rfl, by kernel_rfl, by kernel_rfl, by kernel_rfl, by kernel_rfl, by kernel_rfl, by kernel_rfl, by kernel_rfl, by kernel_rfl, by kernel_rfl, by kernel_rfl, by kernel_rfl, by kernel_rfl, by kernel_rfl, fun _ h => by cases h⟩
theorem funcs : ∀ x ∈ fns, FnOk Try.prog x.1 x.2 := by
  simp only [fns, List.forall_mem_cons]
  exact ⟨fnOk_of Try.func3 rfl (by decide +kernel) (by kernel_rfl) (by kernel_rfl) (by kernel_rfl), fnOk_of Try.func4 rfl (by decide +kernel) (by kernel_rfl) (by kernel_rfl) (by kernel_rfl), fnOk_of Try.func5 rfl (by decide +kernel) (by kernel_rfl) (by kernel_rfl) (by kernel_rfl), fnOk_of Try.func6 rfl (by decide +kernel) (by kernel_rfl) (by kernel_rfl) (by kernel_rfl), fnOk_of Try.func7 rfl (by decide +kernel) (by kernel_rfl) (by kernel_rfl) (by kernel_rfl), fnOk_of Try.func8 rfl (by decide +kernel) (by kernel_rfl) (by kernel_rfl) (by kernel_rfl), fnOk_of Try.func9 rfl (by decide +kernel) (by kernel_rfl) (by kernel_rfl) (by kernel_rfl), fnOk_of Try.func10 rfl (by decide +kernel) (by kernel_rfl) (by kernel_rfl) (by kernel_rfl), fnOk_of Try.func11 rfl (by decide +kernel) (by kernel_rfl) (by kernel_rfl) (by kernel_rfl), fnOk_of Try.func12 rfl (by decide +kernel) (by kernel_rfl) (by kernel_rfl) (by kernel_rfl), fnOk_of Try.func13 rfl (by decide +kernel) (by kernel_rfl) (by kernel_rfl) (by kernel_rfl), fnOk_of Try.func14 rfl (by decide +kernel) (by kernel_rfl) (by kernel_rfl) (by kernel_rfl), fnOk_of Try.func15 rfl (by decide +kernel) (by kernel_rfl) (by kernel_rfl) (by kernel_rfl), fnOk_of Try.func16 rfl (by decide +kernel) (by kernel_rfl) (by kernel_rfl) (by kernel_rfl), fnOk_of Try.func17 rfl (by decide +kernel) (by kernel_rfl) (by kernel_rfl) (by kernel_rfl), fnOk_of Try.func18 rfl (by decide +kernel) (by kernel_rfl) (by kernel_rfl) (by kernel_rfl), fnOk_of Try.func19 rfl (by decide +kernel) (by kernel_rfl) (by kernel_rfl) (by kernel_rfl), fnOk_of Try.func20 rfl (by decide +kernel) (by kernel_rfl) (by kernel_rfl) (by kernel_rfl), fnOk_of Try.func21 rfl (by decide +kernel) (by kernel_rfl) (by kernel_rfl) (by kernel_rfl), fnOk_of Try.func22 rfl (by decide +kernel) (by kernel_rfl) (by kernel_rfl) (by kernel_rfl), fnOk_of Try.func23 rfl (by decide +kernel) (by kernel_rfl) (by kernel_rfl) (by kernel_rfl), fnOk_of Try.func24 rfl (by decide +kernel) (by kernel_rfl) (by kernel_rfl) (by kernel_rfl), fnOk_of Try.func25 rfl (by decide +kernel) (by kernel_rfl) (by kernel_rfl) (by kernel_rfl), fnOk_of Try.func26 rfl (by decide +kernel) (by kernel_rfl) (by kernel_rfl) (by kernel_rfl), fnOk_of Try.func27 rfl (by decide +kernel) (by kernel_rfl) (by kernel_rfl) (by kernel_rfl), fnOk_of Try.func28 rfl (by decide +kernel) (by kernel_rfl) (by kernel_rfl) (by kernel_rfl), fnOk_of Try.func29 rfl (by decide +kernel) (by kernel_rfl) (by kernel_rfl) (by kernel_rfl), fnOk_of Try.func30 rfl (by decide +kernel) (by kernel_rfl) (by kernel_rfl) (by kernel_rfl), fnOk_of Try.func31 rfl (by decide +kernel) (by kernel_rfl) (by kernel_rfl) (by kernel_rfl), fnOk_of Try.func32 rfl (by decide +kernel) (by kernel_rfl) (by kernel_rfl) (by kernel_rfl), fnOk_of Try.func33 rfl (by decide +kernel) (by kernel_rfl) (by kernel_rfl) (by kernel_rfl), fnOk_of Try.func34 rfl (by decide +kernel) (by kernel_rfl) (by kernel_rfl) (by kernel_rfl), fnOk_of Try.func35 rfl (by decide +kernel) (by kernel_rfl) (by kernel_rfl) (by kernel_rfl), fnOk_of Try.func36 rfl (by decide +kernel) (by kernel_rfl) (by kernel_rfl) (by kernel_rfl), fnOk_of Try.func37 rfl (by decide +kernel) (by kernel_rfl) (by kernel_rfl) (by kernel_rfl), fnOk_of Try.func38 rfl (by decide +kernel) (by kernel_rfl) (by kernel_rfl) (by kernel_rfl), fnOk_of Try.func39 rfl (by decide +kernel) (by kernel_rfl) (by kernel_rfl) (by kernel_rfl), fnOk_of Try.func40 rfl (by decide +kernel) (by kernel_rfl) (by kernel_rfl) (by kernel_rfl), fnOk_of Try.func41 rfl (by decide +kernel) (by kernel_rfl) (by kernel_rfl) (by kernel_rfl), fnOk_of Try.func42 rfl (by decide +kernel) (by kernel_rfl) (by kernel_rfl) (by kernel_rfl), fnOk_of Try.func43 rfl (by decide +kernel) (by kernel_rfl) (by kernel_rfl) (by kernel_rfl), fnOk_of Try.func44 rfl (by decide +kernel) (by kernel_rfl) (by kernel_rfl) (by kernel_rfl), fnOk_of Try.func45 rfl (by decide +kernel) (by kernel_rfl) (by kernel_rfl) (by kernel_rfl), fnOk_of Try.func46 rfl (by decide +kernel) (by kernel_rfl) (by kernel_rfl) (by kernel_rfl), fnOk_of Try.func47 rfl (by decide +kernel) (by kernel_rfl) (by kernel_rfl) (by kernel_rfl), fnOk_of Try.func48 rfl (by decide +kernel) (by kernel_rfl) (by kernel_rfl) (by kernel_rfl), fnOk_of Try.func49 rfl (by decide +kernel) (by kernel_rfl) (by kernel_rfl) (by kernel_rfl), fnOk_of Try.func50 rfl (by decide +kernel) (by kernel_rfl) (by kernel_rfl) (by kernel_rfl), fnOk_of Try.func51 rfl (by decide +kernel) (by kernel_rfl) (by kernel_rfl) (by kernel_rfl), fnOk_of Try.func52 rfl (by decide +kernel) (by kernel_rfl) (by kernel_rfl) (by kernel_rfl), fnOk_of Try.func53 rfl (by decide +kernel) (by kernel_rfl) (by kernel_rfl) (by kernel_rfl), fnOk_of Try.func54 rfl (by decide +kernel) (by kernel_rfl) (by kernel_rfl) (by kernel_rfl), fnOk_of Try.func55 rfl (by decide +kernel) (by kernel_rfl) (by kernel_rfl) (by kernel_rfl), fnOk_of Try.func56 rfl (by decide +kernel) (by kernel_rfl) (by kernel_rfl) (by kernel_rfl), fnOk_of Try.func57 rfl (by decide +kernel) (by kernel_rfl) (by kernel_rfl) (by kernel_rfl), fnOk_of Try.func58 rfl (by decide +kernel) (by kernel_rfl) (by kernel_rfl) (by kernel_rfl), fnOk_of Try.func59 rfl (by decide +kernel) (by kernel_rfl) (by kernel_rfl) (by kernel_rfl), fnOk_of Try.func60 rfl (by decide +kernel) (by kernel_rfl) (by kernel_rfl) (by kernel_rfl), fnOk_of Try.func61 rfl (by decide +kernel) (by kernel_rfl) (by kernel_rfl) (by kernel_rfl), fnOk_of Try.func62 rfl (by decide +kernel) (by kernel_rfl) (by kernel_rfl) (by kernel_rfl), fnOk_of Try.func63 rfl (by decide +kernel) (by kernel_rfl) (by kernel_rfl) (by kernel_rfl), fnOk_of Try.func64 rfl (by decide +kernel) (by kernel_rfl) (by kernel_rfl) (by kernel_rfl), fnOk_of Try.func65 rfl (by decide +kernel) (by kernel_rfl) (by kernel_rfl) (by kernel_rfl), fnOk_of Try.func66 rfl (by decide +kernel) (by kernel_rfl) (by kernel_rfl) (by kernel_rfl), fnOk_of Try.func67 rfl (by decide +kernel) (by kernel_rfl) (by kernel_rfl) (by kernel_rfl), fnOk_of Try.func68 rfl (by decide +kernel) (by kernel_rfl) (by kernel_rfl) (by kernel_rfl), fnOk_of Try.func69 rfl (by decide +kernel) (by kernel_rfl) (by kernel_rfl) (by kernel_rfl), fnOk_of Try.func70 rfl (by decide +kernel) (by kernel_rfl) (by kernel_rfl) (by kernel_rfl), fnOk_of Try.func71 rfl (by decide +kernel) (by kernel_rfl) (by kernel_rfl) (by kernel_rfl), fnOk_of Try.func72 rfl (by decide +kernel) (by kernel_rfl) (by kernel_rfl) (by kernel_rfl), fnOk_of Try.func73 rfl (by decide +kernel) (by kernel_rfl) (by kernel_rfl) (by kernel_rfl), fnOk_of Try.func74 rfl (by decide +kernel) (by kernel_rfl) (by kernel_rfl) (by kernel_rfl), fnOk_of Try.func75 rfl (by decide +kernel) (by kernel_rfl) (by kernel_rfl) (by kernel_rfl), fnOk_of Try.func76 rfl (by decide +kernel) (by kernel_rfl) (by kernel_rfl) (by kernel_rfl), fnOk_of Try.func77 rfl (by decide +kernel) (by kernel_rfl) (by kernel_rfl) (by kernel_rfl), fnOk_of Try.func78 rfl (by decide +kernel) (by kernel_rfl) (by kernel_rfl) (by kernel_rfl), fnOk_of Try.func79 rfl (by decide +kernel) (by kernel_rfl) (by kernel_rfl) (by kernel_rfl), fnOk_of Try.func80 rfl (by decide +kernel) (by kernel_rfl) (by kernel_rfl) (by kernel_rfl), fnOk_of Try.func81 rfl (by decide +kernel) (by kernel_rfl) (by kernel_rfl) (by kernel_rfl), fnOk_of Try.func82 rfl (by decide +kernel) (by kernel_rfl) (by kernel_rfl) (by kernel_rfl), fnOk_of Try.func83 rfl (by decide +kernel) (by kernel_rfl) (by kernel_rfl) (by kernel_rfl), fnOk_of Try.func84 rfl (by decide +kernel) (by kernel_rfl) (by kernel_rfl) (by kernel_rfl), fnOk_of Try.func85 rfl (by decide +kernel) (by kernel_rfl) (by kernel_rfl) (by kernel_rfl), fnOk_of Try.func86 rfl (by decide +kernel) (by kernel_rfl) (by kernel_rfl) (by kernel_rfl), fnOk_of Try.func87 rfl (by decide +kernel) (by kernel_rfl) (by kernel_rfl) (by kernel_rfl), fnOk_of Try.func88 rfl (by decide +kernel) (by kernel_rfl) (by kernel_rfl) (by kernel_rfl), fnOk_of Try.func89 rfl (by decide +kernel) (by kernel_rfl) (by kernel_rfl) (by kernel_rfl), fnOk_of Try.func90 rfl (by decide +kernel) (by kernel_rfl) (by kernel_rfl) (by kernel_rfl), fnOk_of Try.func91 rfl (by decide +kernel) (by kernel_rfl) (by kernel_rfl) (by kernel_rfl), fnOk_of Try.func92 rfl (by decide +kernel) (by kernel_rfl) (by kernel_rfl) (by kernel_rfl), fnOk_of Try.func93 rfl (by decide +kernel) (by kernel_rfl) (by kernel_rfl) (by kernel_rfl), fnOk_of Try.func94 rfl (by decide +kernel) (by kernel_rfl) (by kernel_rfl) (by kernel_rfl), fnOk_of Try.func95 rfl (by decide +kernel) (by kernel_rfl) (by kernel_rfl) (by kernel_rfl), fun _ h => by cases h⟩
theorem agree0 : Agree Try.prog ap0 := agree_of (by kernel_rfl) types funcs
@[simp] theorem ap_pl : ap.pl = false := rfl
attribute [simp] ty1 t1 ty2 t2 ty3 t3 ty4 t4 ty5 t5 ty6 t6 ty7 t7 ty9 t9 ty22 t22 ty24 t24 ty26 t26 ty28 t28 ty30 t30 ty32 t32 ty34 t34 ty38 t38 ty41 t41 ty45 t45 ty50 t50 ty52 t52 ty57 t57 ty69 t69 ty70 t70 ty72 t72 ty76 t76 ty78 t78 ty81 t81 ty92 t92 ty94 t94 ty97 t97 ty98 t98 ty106 t106
end Go.Proofs.Ytcmpldjoggeceaa.T
end
