import Derived.Test.YtpohdapcbcjidaaProg
import Derived.Test.YtpohdapcbcjidaaAb23
import Derived.KernelRfl
/-! The tables of the abstract reading. Written by wip/ab/abgen.py (an own program) out of the loaded program. -/
set_option linter.unusedVariables false
set_option maxRecDepth 100000
namespace Go.Proofs.Ytpohdapcbcjidaa.T
open Go Go.Ab
noncomputable def c3 : Code := bodyOf Try.f3
noncomputable def c4 : Code := bodyOf Try.f4
noncomputable def c5 : Code := bodyOf Try.f5
noncomputable def c6 : Code := bodyOf Try.f6
noncomputable def c7 : Code := bodyOf Try.f7
noncomputable def c8 : Code := bodyOf Try.f8
noncomputable def c9 : Code := bodyOf Try.f9
noncomputable def c10 : Code := bodyOf Try.f10
noncomputable def c11 : Code := bodyOf Try.f11
noncomputable def c12 : Code := bodyOf Try.f12
noncomputable def c13 : Code := bodyOf Try.f13
noncomputable def c14 : Code := bodyOf Try.f14
noncomputable def c15 : Code := bodyOf Try.f15
noncomputable def c16 : Code := bodyOf Try.f16
noncomputable def c17 : Code := bodyOf Try.f17
noncomputable def c18 : Code := bodyOf Try.f18
noncomputable def c19 : Code := bodyOf Try.f19
noncomputable def c20 : Code := bodyOf Try.f20
noncomputable def c21 : Code := bodyOf Try.f21
noncomputable def c22 : Code := bodyOf Try.f22
noncomputable def c23 : Code := bodyOf Try.f23
noncomputable def c24 : Code := bodyOf Try.f24
noncomputable def c25 : Code := bodyOf Try.f25
noncomputable def c26 : Code := bodyOf Try.f26
noncomputable def c27 : Code := bodyOf Try.f27
noncomputable def c28 : Code := bodyOf Try.f28
noncomputable def c29 : Code := bodyOf Try.f29
noncomputable def c30 : Code := bodyOf Try.f30
noncomputable def c31 : Code := bodyOf Try.f31
def t1 : TI := ⟨1, 8, [.nilFunc], .func⟩
def t2 : TI := ⟨1, 8, [.int .i64 0], .int .i64⟩
def t3 : TI := ⟨1, 8, [.int .i64 0], .int .i64⟩
def t4 : TI := ⟨1, 1, [.bool false], .bool⟩
def t5 : TI := ⟨1, 1, [.int .u8 0], .int .u8⟩
def t9 : TI := ⟨1, 16, [.str ⟨#[]⟩], .string⟩
def t22 : TI := ⟨1, 24, [.slice none 0 (some 0) 0], .slice 24⟩
def t24 : TI := ⟨1, 24, [.slice none 0 (some 0) 0], .slice 5⟩
def t25 : TI := ⟨1, 8, [.ptr none], .ptr 50⟩
def t28 : TI := ⟨1, 8, [.int .i64 0], .int .i64⟩
def t36 : TI := ⟨1, 24, [.slice none 0 (some 0) 0], .slice 43⟩
def t38 : TI := ⟨1, 8, [.ptr none], .ptr 53⟩
def t43 : TI := ⟨4, 48, [.int .u8 0, .slice none 0 (some 0) 0, .int .i64 0, .int .i64 0], .struct [(0, 5), (1, 24), (2, 3), (3, 3)]⟩
def t50 : TI := ⟨6, 56, [.slice none 0 (some 0) 0, .int .i64 0, .bool false, .bool false, .int .i64 0, .int .i64 0], .struct [(0, 24), (1, 3), (2, 4), (3, 4), (4, 3), (5, 3)]⟩
def t53 : TI := ⟨6, 64, [.slice none 0 (some 0) 0, .int .i64 0, .bool false, .int .i64 0, .int .i64 0, .bool false], .struct [(0, 24), (1, 3), (2, 4), (3, 3), (4, 3), (5, 4)]⟩
/-- novation/novationlaw5.TapeFronts -/
noncomputable def b3 : AC :=
  .seq (.region [⟨some 6, .assign (.const (.bool false)), 4, none, true⟩])
  (.seq (.seq (.region [⟨some 14, .call (⟨.value (.func 8), #[], #[]⟩), 4, none, true⟩, ⟨some 15, .unOp .not 4 (.tmp 14), 4, none, true⟩])
  (.cond (.tmp 15) (.seq (.region [⟨some 6, .assign (.const (.bool false)), 4, none, true⟩])
  .ret) .skip))
  (.seq (.seq (.region [⟨some 16, .move (.tmp 0), 22, none, true⟩, ⟨some 17, .call (⟨.builtin .len, #[.tmp 16], #[22]⟩), 3, none, true⟩, ⟨some 18, .binOp .gtr 3 (.tmp 17) (.const (.int .i64 30)) 3, 4, none, true⟩])
  (.cond (.tmp 18) (.seq (.region [⟨some 6, .assign (.const (.bool true)), 4, none, true⟩])
  .ret) .skip))
  (.seq (.region [⟨some 7, .assign (.const (.string (⟨#[]⟩))), 9, none, true⟩])
  (.seq (.seq (.region [⟨some 8, .assign (.const (.int .i64 0)), 3, none, true⟩])
  (.block 0 (.loop [true, true, true, false, false, false, false, true, true, false, false, false, false, false, false, false, false, false, false, false, false, false, false, false, false, false, false, false, false, false, false, false, false, false, false, false, false, false, false, false, false, false, false, false, false, false, false, false, false, false, false, false, false, false, false, false, false, false, false, false, false, false, false, false, false, false, false, false, false, false, false, false, false, false, false, false, false, false, false, false, false, false, false, false, false, false, false, false, false, false, false, false, false, false, false, false, false, false, false, false, false, false, false, false, false, false, false, false, false, false, false, false, false, false, false, false, false, false, false, false, false, false, false, false, false, false, false, false, false, false, false, false, false, false, false] (.seq (.seq (.region [⟨some 19, .move (.tmp 8), 3, none, true⟩, ⟨some 20, .move (.tmp 0), 22, none, true⟩, ⟨some 21, .call (⟨.builtin .len, #[.tmp 20], #[22]⟩), 3, none, true⟩, ⟨some 22, .binOp .lss 3 (.tmp 19) (.tmp 21) 3, 4, none, true⟩])
  (.cond (.tmp 22) .skip (.exit 0)))
  (.seq (.block 1 (.seq (.region [⟨some 25, .move (.tmp 0), 22, none, true⟩, ⟨some 26, .move (.tmp 8), 3, none, true⟩, ⟨some 27, .indexAddr 22 (.tmp 25) (.tmp 26), 0, none, true⟩, ⟨some 28, .load 24 (.tmp 27), 24, none, true⟩, ⟨some 29, .call (⟨.builtin .len, #[.tmp 28], #[24]⟩), 3, none, true⟩, ⟨some 30, .binOp .gtr 3 (.tmp 29) (.const (.int .i64 100)) 3, 4, none, true⟩])
  (.cond (.tmp 30) (.seq (.region [⟨some 6, .assign (.const (.bool true)), 4, none, true⟩])
  .ret) .skip)))
  (.region [⟨some 23, .move (.tmp 8), 3, none, true⟩, ⟨some 24, .binOp .add 3 (.tmp 23) (.const (.int .i64 1)) 3, 3, none, true⟩, ⟨some 8, .assign (.tmp 24), 3, none, true⟩]))))))
  (.seq (.region [⟨some 31, .call (⟨.value (.func 9), #[.const (.int .i64 1048576)], #[3]⟩), 25, none, true⟩, ⟨some 9, .assign (.tmp 31), 25, none, true⟩])
  (.seq (.seq (.region [⟨some 32, .move (.tmp 9), 25, none, true⟩, ⟨some 33, .binOp .eql 25 (.tmp 32) (.const (.pointer none)) 25, 4, none, true⟩])
  (.cond (.tmp 33) (.seq (.region [⟨some 6, .assign (.const (.bool false)), 4, none, true⟩])
  .ret) .skip))
  (.seq (.region [⟨some 34, .move (.tmp 9), 25, none, true⟩, ⟨some 35, .move (.tmp 1), 5, none, true⟩, ⟨some 36, .convert 5 3 (.tmp 35), 3, none, true⟩, ⟨some 37, .move (.tmp 2), 5, none, true⟩, ⟨some 38, .convert 5 3 (.tmp 37), 3, none, true⟩, ⟨some 39, .call (⟨.value (.func 10), #[.tmp 34, .tmp 36, .tmp 38], #[25, 3, 3]⟩), 0, none, true⟩])
  (.seq (.seq (.region [⟨some 10, .assign (.const (.int .i64 0)), 3, none, true⟩])
  (.block 2 (.loop [true, true, true, false, false, false, false, true, false, true, true, false, false, false, false, false, false, false, false, false, false, false, false, false, false, false, false, false, false, false, false, false, false, false, false, false, false, false, false, false, false, false, false, false, false, false, false, false, false, false, false, false, false, false, false, false, false, false, false, false, false, false, false, false, false, false, false, false, false, false, false, false, false, false, false, false, false, false, false, false, false, false, false, false, false, false, false, false, false, false, false, false, false, false, false, false, false, false, false, false, false, false, false, false, false, false, false, false, false, false, false, false, false, false, false, false, false, false, false, false, false, false, false, false, false, false, false, false, false, false, false, false, false, false, false] (.seq (.seq (.region [⟨some 40, .move (.tmp 10), 3, none, true⟩, ⟨some 41, .move (.tmp 0), 22, none, true⟩, ⟨some 42, .call (⟨.builtin .len, #[.tmp 41], #[22]⟩), 3, none, true⟩, ⟨some 43, .binOp .lss 3 (.tmp 40) (.tmp 42) 3, 4, none, true⟩])
  (.cond (.tmp 43) .skip (.exit 2)))
  (.seq (.block 3 (.seq (.region [⟨some 46, .move (.tmp 9), 25, none, true⟩, ⟨some 47, .move (.tmp 0), 22, none, true⟩, ⟨some 48, .move (.tmp 10), 3, none, true⟩, ⟨some 49, .indexAddr 22 (.tmp 47) (.tmp 48), 0, none, true⟩, ⟨some 50, .load 24 (.tmp 49), 24, none, true⟩, ⟨some 51, .call (⟨.value (.func 11), #[.tmp 46, .tmp 50], #[25, 24]⟩), 28, none, true⟩, ⟨some 11, .assign (.tmp 51), 28, none, true⟩])
  (.block 4 (.seq (.region [⟨some 60, .move (.tmp 10), 3, none, true⟩, ⟨some 61, .move (.tmp 1), 5, none, true⟩, ⟨some 62, .convert 5 3 (.tmp 61), 3, none, true⟩, ⟨some 63, .binOp .lss 3 (.tmp 60) (.tmp 62) 3, 4, none, true⟩, ⟨some 59, .assign (.tmp 63), 4, none, true⟩])
  (.cond (.tmp 59) (.seq (.region [⟨some 64, .move (.tmp 7), 9, none, true⟩, ⟨some 65, .move (.tmp 0), 22, none, true⟩, ⟨some 66, .move (.tmp 10), 3, none, true⟩, ⟨some 67, .indexAddr 22 (.tmp 65) (.tmp 66), 0, none, true⟩, ⟨some 68, .load 24 (.tmp 67), 24, none, true⟩, ⟨some 69, .convert 24 9 (.tmp 68), 9, none, true⟩, ⟨some 70, .binOp .add 9 (.tmp 64) (.tmp 69) 9, 9, none, true⟩, ⟨some 7, .assign (.tmp 70), 9, none, true⟩])
  (.seq (.region [⟨some 71, .move (.tmp 11), 28, none, true⟩, ⟨some 72, .binOp .neq 28 (.tmp 71) (.const (.int .i64 0)) 28, 4, none, true⟩, ⟨some 73, .move (.tmp 72), 4, none, true⟩, ⟨some 74, .move (.tmp 9), 25, some (some 73), false⟩, ⟨some 75, .call (⟨.value (.func 12), #[.tmp 74], #[25]⟩), 4, some (some 73), false⟩, ⟨some 76, .pick (.tmp 73) (.const (.bool true)) (.tmp 75), 4, none, true⟩])
  (.cond (.tmp 76) (.seq (.region [⟨some 6, .assign (.const (.bool false)), 4, none, true⟩])
  .ret) .skip))) (.seq (.region [⟨some 78, .move (.tmp 10), 3, none, true⟩, ⟨some 79, .move (.tmp 1), 5, none, true⟩, ⟨some 80, .convert 5 3 (.tmp 79), 3, none, true⟩, ⟨some 81, .binOp .eql 3 (.tmp 78) (.tmp 80) 3, 4, none, true⟩, ⟨some 77, .assign (.tmp 81), 4, none, true⟩])
  (.cond (.tmp 77) (.seq (.draw (drawOf T.c3 26) [0, 1, 2, 3, 4, 5, 6, 7, 8, 9, 10, 11, 12, 13, 14, 15, 16] [[], [], [], [1, 2], [1, 2, 3], [], [5], [], [], [7, 8], [7, 8, 9], [7, 8, 9, 10], [5, 6, 7, 8, 9, 10, 11], [1, 2, 3, 4, 5, 6, 7, 8, 9, 10, 11, 12], [1, 2, 3, 4, 5, 6, 7, 8, 9, 10, 11, 12, 13], [0, 1, 2, 3, 4, 5, 6, 7, 8, 9, 10, 11, 12, 13, 14], [0, 1, 2, 3, 4, 5, 6, 7, 8, 9, 10, 11, 12, 13, 14, 15]])
  (.seq (.region [⟨some 98, .move (.tmp 11), 28, none, true⟩, ⟨some 99, .binOp .neq 28 (.tmp 98) (.const (.int .i64 15)) 28, 4, none, true⟩])
  (.cond (.tmp 99) (.seq (.region [⟨some 6, .assign (.const (.bool false)), 4, none, true⟩])
  .ret) .skip))) (.seq (.region [⟨some 52, .move (.tmp 11), 28, none, true⟩, ⟨some 53, .binOp .neq 28 (.tmp 52) (.const (.int .i64 15)) 28, 4, none, true⟩, ⟨some 54, .move (.tmp 53), 4, none, true⟩, ⟨some 55, .move (.tmp 9), 25, some (some 54), false⟩, ⟨some 56, .call (⟨.value (.func 13), #[.tmp 55, .const (.int .i64 0)], #[25, 3]⟩), 28, some (some 54), false⟩, ⟨some 57, .binOp .neq 28 (.tmp 56) (.const (.int .i64 15)) 28, 4, some (some 54), false⟩, ⟨some 58, .pick (.tmp 54) (.const (.bool true)) (.tmp 57), 4, none, true⟩])
  (.cond (.tmp 58) (.seq (.region [⟨some 6, .assign (.const (.bool false)), 4, none, true⟩])
  .ret) .skip)))))))))
  (.region [⟨some 44, .move (.tmp 10), 3, none, true⟩, ⟨some 45, .binOp .add 3 (.tmp 44) (.const (.int .i64 1)) 3, 3, none, true⟩, ⟨some 10, .assign (.tmp 45), 3, none, true⟩]))))))
  (.seq (.seq (.region [⟨some 100, .move (.tmp 9), 25, none, true⟩, ⟨some 101, .call (⟨.value (.func 12), #[.tmp 100], #[25]⟩), 4, none, true⟩, ⟨some 102, .move (.tmp 0), 22, none, true⟩, ⟨some 103, .call (⟨.builtin .len, #[.tmp 102], #[22]⟩), 3, none, true⟩, ⟨some 104, .move (.tmp 1), 5, none, true⟩, ⟨some 105, .convert 5 3 (.tmp 104), 3, none, true⟩, ⟨some 106, .binOp .gtr 3 (.tmp 103) (.tmp 105) 3, 4, none, true⟩, ⟨some 107, .binOp .neq 4 (.tmp 101) (.tmp 106) 4, 4, none, true⟩])
  (.cond (.tmp 107) (.seq (.region [⟨some 6, .assign (.const (.bool false)), 4, none, true⟩])
  .ret) .skip))
  (.seq (.region [⟨some 108, .move (.tmp 9), 25, none, true⟩, ⟨some 109, .call (⟨.value (.func 14), #[.tmp 108], #[25]⟩), 0, none, true⟩])
  (.seq (.region [⟨some 111, .move (.tmp 9), 25, none, true⟩, ⟨some 112, .call (⟨.value (.func 15), #[.tmp 111], #[25]⟩), 31, none, true⟩, ⟨some 110, .move (.tmp 112), 31, none, true⟩, ⟨some 113, .extract (.tmp 110) 0, 24, none, true⟩, ⟨some 114, .extract (.tmp 110) 1, 28, none, true⟩, ⟨some 12, .assign (.tmp 113), 24, none, true⟩, ⟨some 13, .assign (.tmp 114), 28, none, true⟩])
  (.seq (.region [⟨some 115, .move (.tmp 13), 28, none, true⟩, ⟨some 116, .binOp .eql 28 (.tmp 115) (.const (.int .i64 0)) 28, 4, none, true⟩, ⟨some 117, .move (.tmp 116), 4, none, true⟩, ⟨some 118, .move (.tmp 12), 24, some (some 117), true⟩, ⟨some 119, .convert 24 9 (.tmp 118), 9, some (some 117), true⟩, ⟨some 120, .move (.tmp 7), 9, some (some 117), true⟩, ⟨some 121, .binOp .eql 9 (.tmp 119) (.tmp 120) 9, 4, some (some 117), true⟩, ⟨some 122, .pick (.tmp 117) (.tmp 121) (.const (.bool false)), 4, none, true⟩, ⟨some 123, .move (.tmp 122), 4, none, true⟩, ⟨some 124, .move (.tmp 9), 25, some (some 123), true⟩, ⟨some 125, .call (⟨.value (.func 16), #[.tmp 124], #[25]⟩), 3, some (some 123), true⟩, ⟨some 126, .move (.tmp 7), 9, some (some 123), true⟩, ⟨some 127, .call (⟨.builtin .len, #[.tmp 126], #[9]⟩), 3, some (some 123), true⟩, ⟨some 128, .binOp .eql 3 (.tmp 125) (.tmp 127) 3, 4, some (some 123), true⟩, ⟨some 129, .pick (.tmp 123) (.tmp 128) (.const (.bool false)), 4, none, true⟩, ⟨some 130, .move (.tmp 129), 4, none, true⟩, ⟨some 131, .move (.tmp 9), 25, some (some 130), true⟩, ⟨some 132, .call (⟨.value (.func 12), #[.tmp 131], #[25]⟩), 4, some (some 130), true⟩, ⟨some 133, .unOp .not 4 (.tmp 132), 4, some (some 130), true⟩, ⟨some 134, .pick (.tmp 130) (.tmp 133) (.const (.bool false)), 4, none, true⟩, ⟨some 6, .assign (.tmp 134), 4, none, true⟩])
  .ret))))))))))))
noncomputable def f3 : AFn := ⟨135, [.tmp 6], b3⟩
/-- novation/novationlaw5.TapeKeeps -/
noncomputable def b4 : AC :=
  .seq (.region [⟨some 4, .assign (.const (.bool false)), 4, none, true⟩])
  (.seq (.seq (.region [⟨some 14, .call (⟨.value (.func 8), #[], #[]⟩), 4, none, true⟩, ⟨some 15, .unOp .not 4 (.tmp 14), 4, none, true⟩])
  (.cond (.tmp 15) (.seq (.region [⟨some 4, .assign (.const (.bool false)), 4, none, true⟩])
  .ret) .skip))
  (.seq (.seq (.region [⟨some 16, .move (.tmp 0), 24, none, true⟩, ⟨some 17, .call (⟨.builtin .len, #[.tmp 16], #[24]⟩), 3, none, true⟩, ⟨some 18, .binOp .gtr 3 (.tmp 17) (.const (.int .i64 300)) 3, 4, none, true⟩, ⟨some 19, .move (.tmp 18), 4, none, true⟩, ⟨some 20, .move (.tmp 1), 24, some (some 19), false⟩, ⟨some 21, .call (⟨.builtin .len, #[.tmp 20], #[24]⟩), 3, some (some 19), false⟩, ⟨some 22, .binOp .gtr 3 (.tmp 21) (.const (.int .i64 300)) 3, 4, some (some 19), false⟩, ⟨some 23, .pick (.tmp 19) (.const (.bool true)) (.tmp 22), 4, none, true⟩])
  (.cond (.tmp 23) (.seq (.region [⟨some 4, .assign (.const (.bool true)), 4, none, true⟩])
  .ret) .skip))
  (.seq (.region [⟨some 24, .call (⟨.value (.func 9), #[.const (.int .i64 1000)], #[3]⟩), 25, none, true⟩, ⟨some 5, .assign (.tmp 24), 25, none, true⟩])
  (.seq (.region [⟨some 25, .buildSlice 24 0 #[], 24, none, true⟩, ⟨some 26, .move (.tmp 0), 24, none, true⟩, ⟨some 27, .call (⟨.builtin .append, #[.tmp 25, .tmp 26], #[24, 24]⟩), 24, none, true⟩, ⟨some 6, .assign (.tmp 27), 24, none, true⟩])
  (.seq (.seq (.region [⟨some 28, .move (.tmp 5), 25, none, true⟩, ⟨some 29, .binOp .eql 25 (.tmp 28) (.const (.pointer none)) 25, 4, none, true⟩, ⟨some 30, .move (.tmp 29), 4, none, true⟩, ⟨some 31, .move (.tmp 5), 25, some (some 30), false⟩, ⟨some 32, .move (.tmp 6), 24, some (some 30), false⟩, ⟨some 33, .call (⟨.value (.func 11), #[.tmp 31, .tmp 32], #[25, 24]⟩), 28, some (some 30), false⟩, ⟨some 34, .binOp .neq 28 (.tmp 33) (.const (.int .i64 0)) 28, 4, some (some 30), false⟩, ⟨some 35, .pick (.tmp 30) (.const (.bool true)) (.tmp 34), 4, none, true⟩, ⟨some 36, .move (.tmp 35), 4, none, true⟩, ⟨some 37, .move (.tmp 5), 25, some (some 36), false⟩, ⟨some 38, .move (.tmp 1), 24, some (some 36), false⟩, ⟨some 39, .call (⟨.value (.func 11), #[.tmp 37, .tmp 38], #[25, 24]⟩), 28, some (some 36), false⟩, ⟨some 40, .binOp .neq 28 (.tmp 39) (.const (.int .i64 0)) 28, 4, some (some 36), false⟩, ⟨some 41, .pick (.tmp 36) (.const (.bool true)) (.tmp 40), 4, none, true⟩])
  (.cond (.tmp 41) (.seq (.region [⟨some 4, .assign (.const (.bool false)), 4, none, true⟩])
  .ret) .skip))
  (.seq (.seq (.region [⟨some 7, .assign (.const (.int .i64 0)), 3, none, true⟩])
  (.block 0 (.loop [true, true, false, false, false, true, true, true, false, false, false, false, false, false, false, false, false, false, false, false, false, false, false, false, false, false, false, false, false, false, false, false, false, false, false, false, false, false, false, false, false, false, false, false, false, false, false, false, false, false, false, false, false, false, false, false, false, false, false, false, false, false, false, false, false, false, false, false, false, false, false, false, false, false, false, false, false, false, false, false, false, false, false, false, false, false, false, false, false, false, false, false, false, false, false, false, false] (.seq (.seq (.region [⟨some 42, .move (.tmp 7), 3, none, true⟩, ⟨some 43, .move (.tmp 6), 24, none, true⟩, ⟨some 44, .call (⟨.builtin .len, #[.tmp 43], #[24]⟩), 3, none, true⟩, ⟨some 45, .binOp .lss 3 (.tmp 42) (.tmp 44) 3, 4, none, true⟩])
  (.cond (.tmp 45) .skip (.exit 0)))
  (.seq (.block 1 (.region [⟨some 48, .move (.tmp 6), 24, none, true⟩, ⟨some 49, .move (.tmp 7), 3, none, true⟩, ⟨some 50, .indexAddr 24 (.tmp 48) (.tmp 49), 0, none, true⟩, ⟨some 51, .load 5 (.tmp 50), 5, none, true⟩, ⟨some 52, .binOp .xor 5 (.tmp 51) (.const (.int .u8 255)) 5, 5, none, true⟩, ⟨some 53, .indexAddr 24 (.tmp 48) (.tmp 49), 0, none, true⟩, ⟨none, .store 5 (.tmp 53) (.tmp 52), 0, none, true⟩]))
  (.region [⟨some 46, .move (.tmp 7), 3, none, true⟩, ⟨some 47, .binOp .add 3 (.tmp 46) (.const (.int .i64 1)) 3, 3, none, true⟩, ⟨some 7, .assign (.tmp 47), 3, none, true⟩]))))))
  (.seq (.region [⟨some 54, .move (.tmp 0), 24, none, true⟩, ⟨some 55, .convert 24 9 (.tmp 54), 9, none, true⟩, ⟨some 56, .move (.tmp 1), 24, none, true⟩, ⟨some 57, .convert 24 9 (.tmp 56), 9, none, true⟩, ⟨some 58, .binOp .add 9 (.tmp 55) (.tmp 57) 9, 9, none, true⟩, ⟨some 8, .assign (.tmp 58), 9, none, true⟩])
  (.seq (.region [⟨some 60, .move (.tmp 5), 25, none, true⟩, ⟨some 61, .call (⟨.value (.func 15), #[.tmp 60], #[25]⟩), 31, none, true⟩, ⟨some 59, .move (.tmp 61), 31, none, true⟩, ⟨some 62, .extract (.tmp 59) 0, 24, none, true⟩, ⟨some 63, .extract (.tmp 59) 1, 28, none, true⟩, ⟨some 9, .assign (.tmp 62), 24, none, true⟩, ⟨some 10, .assign (.tmp 63), 28, none, true⟩])
  (.seq (.seq (.region [⟨some 64, .move (.tmp 10), 28, none, true⟩, ⟨some 65, .binOp .neq 28 (.tmp 64) (.const (.int .i64 0)) 28, 4, none, true⟩, ⟨some 66, .move (.tmp 65), 4, none, true⟩, ⟨some 67, .move (.tmp 9), 24, some (some 66), false⟩, ⟨some 68, .convert 24 9 (.tmp 67), 9, some (some 66), false⟩, ⟨some 69, .move (.tmp 8), 9, some (some 66), false⟩, ⟨some 70, .binOp .neq 9 (.tmp 68) (.tmp 69) 9, 4, some (some 66), false⟩, ⟨some 71, .pick (.tmp 66) (.const (.bool true)) (.tmp 70), 4, none, true⟩])
  (.cond (.tmp 71) (.seq (.region [⟨some 4, .assign (.const (.bool false)), 4, none, true⟩])
  .ret) .skip))
  (.seq (.seq (.region [⟨some 11, .assign (.const (.int .i64 0)), 3, none, true⟩])
  (.block 2 (.loop [false, false, false, false, false, true, false, false, true, true, false, true, false, false, false, false, false, false, false, false, false, false, false, false, false, false, false, false, false, false, false, false, false, false, false, false, false, false, false, false, false, false, false, false, false, false, false, false, false, false, false, false, false, false, false, false, false, false, false, false, false, false, false, false, false, false, false, false, false, false, false, false, false, false, false, false, false, false, false, false, false, false, false, false, false, false, false, false, false, false, false, false, false, false, false, false, false] (.seq (.seq (.region [⟨some 72, .move (.tmp 11), 3, none, true⟩, ⟨some 73, .move (.tmp 9), 24, none, true⟩, ⟨some 74, .call (⟨.builtin .len, #[.tmp 73], #[24]⟩), 3, none, true⟩, ⟨some 75, .binOp .lss 3 (.tmp 72) (.tmp 74) 3, 4, none, true⟩])
  (.cond (.tmp 75) .skip (.exit 2)))
  (.seq (.block 3 (.region [⟨some 78, .move (.tmp 9), 24, none, true⟩, ⟨some 79, .move (.tmp 11), 3, none, true⟩, ⟨some 80, .indexAddr 24 (.tmp 78) (.tmp 79), 0, none, true⟩, ⟨some 81, .load 5 (.tmp 80), 5, none, true⟩, ⟨some 82, .binOp .xor 5 (.tmp 81) (.const (.int .u8 255)) 5, 5, none, true⟩, ⟨some 83, .indexAddr 24 (.tmp 78) (.tmp 79), 0, none, true⟩, ⟨none, .store 5 (.tmp 83) (.tmp 82), 0, none, true⟩]))
  (.region [⟨some 76, .move (.tmp 11), 3, none, true⟩, ⟨some 77, .binOp .add 3 (.tmp 76) (.const (.int .i64 1)) 3, 3, none, true⟩, ⟨some 11, .assign (.tmp 77), 3, none, true⟩]))))))
  (.seq (.region [⟨some 85, .move (.tmp 5), 25, none, true⟩, ⟨some 86, .call (⟨.value (.func 15), #[.tmp 85], #[25]⟩), 31, none, true⟩, ⟨some 84, .move (.tmp 86), 31, none, true⟩, ⟨some 87, .extract (.tmp 84) 0, 24, none, true⟩, ⟨some 88, .extract (.tmp 84) 1, 28, none, true⟩, ⟨some 12, .assign (.tmp 87), 24, none, true⟩, ⟨some 13, .assign (.tmp 88), 28, none, true⟩])
  (.seq (.region [⟨some 89, .move (.tmp 13), 28, none, true⟩, ⟨some 90, .binOp .eql 28 (.tmp 89) (.const (.int .i64 0)) 28, 4, none, true⟩, ⟨some 91, .move (.tmp 90), 4, none, true⟩, ⟨some 92, .move (.tmp 12), 24, some (some 91), true⟩, ⟨some 93, .convert 24 9 (.tmp 92), 9, some (some 91), true⟩, ⟨some 94, .move (.tmp 8), 9, some (some 91), true⟩, ⟨some 95, .binOp .eql 9 (.tmp 93) (.tmp 94) 9, 4, some (some 91), true⟩, ⟨some 96, .pick (.tmp 91) (.tmp 95) (.const (.bool false)), 4, none, true⟩, ⟨some 4, .assign (.tmp 96), 4, none, true⟩])
  .ret))))))))))))
noncomputable def f4 : AFn := ⟨97, [.tmp 4], b4⟩
/-- novation/novationlaw5.TapePlays -/
noncomputable def b5 : AC :=
  .seq (.region [⟨some 4, .assign (.const (.bool false)), 4, none, true⟩])
  (.seq (.seq (.region [⟨some 8, .call (⟨.value (.func 8), #[], #[]⟩), 4, none, true⟩, ⟨some 9, .unOp .not 4 (.tmp 8), 4, none, true⟩])
  (.cond (.tmp 9) (.seq (.region [⟨some 4, .assign (.const (.bool false)), 4, none, true⟩])
  .ret) .skip))
  (.seq (.seq (.region [⟨some 10, .move (.tmp 1), 36, none, true⟩, ⟨some 11, .call (⟨.value (.func 17), #[.tmp 10], #[36]⟩), 4, none, true⟩, ⟨some 12, .unOp .not 4 (.tmp 11), 4, none, true⟩])
  (.cond (.tmp 12) (.seq (.region [⟨some 4, .assign (.const (.bool true)), 4, none, true⟩])
  .ret) .skip))
  (.seq (.region [⟨some 13, .move (.tmp 0), 3, none, true⟩, ⟨some 14, .call (⟨.value (.func 9), #[.tmp 13], #[3]⟩), 25, none, true⟩, ⟨some 15, .move (.tmp 0), 3, none, true⟩, ⟨some 16, .call (⟨.value (.func 18), #[.tmp 15], #[3]⟩), 38, none, true⟩, ⟨some 5, .assign (.tmp 14), 25, none, true⟩, ⟨some 6, .assign (.tmp 16), 38, none, true⟩])
  (.seq (.seq (.region [⟨some 17, .move (.tmp 5), 25, none, true⟩, ⟨some 18, .binOp .eql 25 (.tmp 17) (.const (.pointer none)) 25, 4, none, true⟩, ⟨some 19, .move (.tmp 18), 4, none, true⟩, ⟨some 20, .move (.tmp 5), 25, some (some 19), false⟩, ⟨some 21, .move (.tmp 6), 38, some (some 19), false⟩, ⟨some 22, .call (⟨.value (.func 19), #[.tmp 20, .tmp 21], #[25, 38]⟩), 4, some (some 19), false⟩, ⟨some 23, .unOp .not 4 (.tmp 22), 4, some (some 19), false⟩, ⟨some 24, .pick (.tmp 19) (.const (.bool true)) (.tmp 23), 4, none, true⟩])
  (.cond (.tmp 24) (.seq (.region [⟨some 4, .assign (.const (.bool false)), 4, none, true⟩])
  .ret) .skip))
  (.seq (.seq (.region [⟨some 7, .assign (.const (.int .i64 0)), 3, none, true⟩])
  (.block 0 (.loop [false, true, false, false, false, true, true, true, false, false, false, false, false, false, false, false, false, false, false, false, false, false, false, false, false, false, false, false, false, false, false, false, false, false, false, false, false, false, false, false, false, false, false, false, false] (.seq (.seq (.region [⟨some 25, .move (.tmp 7), 3, none, true⟩, ⟨some 26, .move (.tmp 1), 36, none, true⟩, ⟨some 27, .call (⟨.builtin .len, #[.tmp 26], #[36]⟩), 3, none, true⟩, ⟨some 28, .binOp .lss 3 (.tmp 25) (.tmp 27) 3, 4, none, true⟩])
  (.cond (.tmp 28) .skip (.exit 0)))
  (.seq (.block 1 (.seq (.region [⟨some 31, .move (.tmp 5), 25, none, true⟩, ⟨some 32, .move (.tmp 6), 38, none, true⟩, ⟨some 33, .move (.tmp 1), 36, none, true⟩, ⟨some 34, .move (.tmp 7), 3, none, true⟩, ⟨some 35, .indexAddr 36 (.tmp 33) (.tmp 34), 0, none, true⟩, ⟨some 36, .load 43 (.tmp 35), 43, none, true⟩, ⟨some 37, .call (⟨.value (.func 20), #[.tmp 31, .tmp 32, .tmp 36], #[25, 38, 43]⟩), 4, none, true⟩, ⟨some 38, .unOp .not 4 (.tmp 37), 4, none, true⟩, ⟨some 39, .move (.tmp 38), 4, none, true⟩, ⟨some 40, .move (.tmp 5), 25, some (some 39), false⟩, ⟨some 41, .move (.tmp 6), 38, some (some 39), false⟩, ⟨some 42, .call (⟨.value (.func 19), #[.tmp 40, .tmp 41], #[25, 38]⟩), 4, some (some 39), false⟩, ⟨some 43, .unOp .not 4 (.tmp 42), 4, some (some 39), false⟩, ⟨some 44, .pick (.tmp 39) (.const (.bool true)) (.tmp 43), 4, none, true⟩])
  (.cond (.tmp 44) (.seq (.region [⟨some 4, .assign (.const (.bool false)), 4, none, true⟩])
  .ret) .skip)))
  (.region [⟨some 29, .move (.tmp 7), 3, none, true⟩, ⟨some 30, .binOp .add 3 (.tmp 29) (.const (.int .i64 1)) 3, 3, none, true⟩, ⟨some 7, .assign (.tmp 30), 3, none, true⟩]))))))
  (.seq (.region [⟨some 4, .assign (.const (.bool true)), 4, none, true⟩])
  .ret))))))
noncomputable def f5 : AFn := ⟨45, [.tmp 4], b5⟩
/-- novation/novationlaw5.TapeCopies -/
noncomputable def b6 : AC :=
  .seq (.region [⟨some 6, .assign (.const (.bool false)), 4, none, true⟩])
  (.seq (.seq (.region [⟨some 14, .call (⟨.value (.func 8), #[], #[]⟩), 4, none, true⟩, ⟨some 15, .unOp .not 4 (.tmp 14), 4, none, true⟩])
  (.cond (.tmp 15) (.seq (.region [⟨some 6, .assign (.const (.bool false)), 4, none, true⟩])
  .ret) .skip))
  (.seq (.seq (.region [⟨some 16, .move (.tmp 1), 36, none, true⟩, ⟨some 17, .call (⟨.value (.func 17), #[.tmp 16], #[36]⟩), 4, none, true⟩, ⟨some 18, .unOp .not 4 (.tmp 17), 4, none, true⟩, ⟨some 19, .move (.tmp 18), 4, none, true⟩, ⟨some 20, .move (.tmp 2), 36, some (some 19), false⟩, ⟨some 21, .call (⟨.value (.func 17), #[.tmp 20], #[36]⟩), 4, some (some 19), false⟩, ⟨some 22, .unOp .not 4 (.tmp 21), 4, some (some 19), false⟩, ⟨some 23, .pick (.tmp 19) (.const (.bool true)) (.tmp 22), 4, none, true⟩])
  (.cond (.tmp 23) (.seq (.region [⟨some 6, .assign (.const (.bool true)), 4, none, true⟩])
  .ret) .skip))
  (.seq (.region [⟨some 24, .move (.tmp 0), 3, none, true⟩, ⟨some 25, .call (⟨.value (.func 9), #[.tmp 24], #[3]⟩), 25, none, true⟩, ⟨some 26, .move (.tmp 0), 3, none, true⟩, ⟨some 27, .call (⟨.value (.func 18), #[.tmp 26], #[3]⟩), 38, none, true⟩, ⟨some 7, .assign (.tmp 25), 25, none, true⟩, ⟨some 8, .assign (.tmp 27), 38, none, true⟩])
  (.seq (.seq (.region [⟨some 28, .move (.tmp 7), 25, none, true⟩, ⟨some 29, .binOp .eql 25 (.tmp 28) (.const (.pointer none)) 25, 4, none, true⟩])
  (.cond (.tmp 29) (.seq (.region [⟨some 6, .assign (.const (.bool false)), 4, none, true⟩])
  .ret) .skip))
  (.seq (.seq (.region [⟨some 9, .assign (.const (.int .i64 0)), 3, none, true⟩])
  (.block 0 (.loop [false, true, true, false, false, false, false, true, true, true, false, false, false, false, false, false, false, false, false, false, false, false, false, false, false, false, false, false, false, false, false, false, false, false, false, false, false, false, false, false, false, false, false, false, false, false, false, false, false, false, false, false, false, false, false, false, false, false, false, false, false, false, false, false, false, false, false, false, false, false, false, false, false, false, false, false, false, false, false, false, false, false, false, false, false, false, false, false, false, false, false] (.seq (.seq (.region [⟨some 30, .move (.tmp 9), 3, none, true⟩, ⟨some 31, .move (.tmp 1), 36, none, true⟩, ⟨some 32, .call (⟨.builtin .len, #[.tmp 31], #[36]⟩), 3, none, true⟩, ⟨some 33, .binOp .lss 3 (.tmp 30) (.tmp 32) 3, 4, none, true⟩])
  (.cond (.tmp 33) .skip (.exit 0)))
  (.seq (.block 1 (.seq (.region [⟨some 36, .move (.tmp 7), 25, none, true⟩, ⟨some 37, .move (.tmp 8), 38, none, true⟩, ⟨some 38, .move (.tmp 1), 36, none, true⟩, ⟨some 39, .move (.tmp 9), 3, none, true⟩, ⟨some 40, .indexAddr 36 (.tmp 38) (.tmp 39), 0, none, true⟩, ⟨some 41, .load 43 (.tmp 40), 43, none, true⟩, ⟨some 42, .call (⟨.value (.func 20), #[.tmp 36, .tmp 37, .tmp 41], #[25, 38, 43]⟩), 4, none, true⟩, ⟨some 43, .unOp .not 4 (.tmp 42), 4, none, true⟩])
  (.cond (.tmp 43) (.seq (.region [⟨some 6, .assign (.const (.bool false)), 4, none, true⟩])
  .ret) .skip)))
  (.region [⟨some 34, .move (.tmp 9), 3, none, true⟩, ⟨some 35, .binOp .add 3 (.tmp 34) (.const (.int .i64 1)) 3, 3, none, true⟩, ⟨some 9, .assign (.tmp 35), 3, none, true⟩]))))))
  (.seq (.region [⟨some 44, .move (.tmp 7), 25, none, true⟩, ⟨some 45, .call (⟨.value (.func 21), #[.tmp 44], #[25]⟩), 25, none, true⟩, ⟨some 46, .move (.tmp 8), 38, none, true⟩, ⟨some 47, .call (⟨.value (.func 22), #[.tmp 46], #[38]⟩), 38, none, true⟩, ⟨some 10, .assign (.tmp 45), 25, none, true⟩, ⟨some 11, .assign (.tmp 47), 38, none, true⟩])
  (.seq (.seq (.region [⟨some 48, .move (.tmp 10), 25, none, true⟩, ⟨some 49, .binOp .eql 25 (.tmp 48) (.const (.pointer none)) 25, 4, none, true⟩])
  (.cond (.tmp 49) (.seq (.region [⟨some 6, .assign (.const (.bool false)), 4, none, true⟩])
  .ret) .skip))
  (.seq (.seq (.region [⟨some 12, .assign (.const (.int .i64 0)), 3, none, true⟩])
  (.block 2 (.loop [false, false, true, false, false, false, false, true, true, false, true, true, true, false, false, false, false, false, false, false, false, false, false, false, false, false, false, false, false, false, false, false, false, false, false, false, false, false, false, false, false, false, false, false, false, false, false, false, false, false, false, false, false, false, false, false, false, false, false, false, false, false, false, false, false, false, false, false, false, false, false, false, false, false, false, false, false, false, false, false, false, false, false, false, false, false, false, false, false, false, false] (.seq (.seq (.region [⟨some 50, .move (.tmp 12), 3, none, true⟩, ⟨some 51, .move (.tmp 2), 36, none, true⟩, ⟨some 52, .call (⟨.builtin .len, #[.tmp 51], #[36]⟩), 3, none, true⟩, ⟨some 53, .binOp .lss 3 (.tmp 50) (.tmp 52) 3, 4, none, true⟩])
  (.cond (.tmp 53) .skip (.exit 2)))
  (.seq (.block 3 (.seq (.region [⟨some 56, .move (.tmp 10), 25, none, true⟩, ⟨some 57, .move (.tmp 11), 38, none, true⟩, ⟨some 58, .move (.tmp 2), 36, none, true⟩, ⟨some 59, .move (.tmp 12), 3, none, true⟩, ⟨some 60, .indexAddr 36 (.tmp 58) (.tmp 59), 0, none, true⟩, ⟨some 61, .load 43 (.tmp 60), 43, none, true⟩, ⟨some 62, .call (⟨.value (.func 20), #[.tmp 56, .tmp 57, .tmp 61], #[25, 38, 43]⟩), 4, none, true⟩, ⟨some 63, .unOp .not 4 (.tmp 62), 4, none, true⟩])
  (.cond (.tmp 63) (.seq (.region [⟨some 6, .assign (.const (.bool false)), 4, none, true⟩])
  .ret) .skip)))
  (.region [⟨some 54, .move (.tmp 12), 3, none, true⟩, ⟨some 55, .binOp .add 3 (.tmp 54) (.const (.int .i64 1)) 3, 3, none, true⟩, ⟨some 12, .assign (.tmp 55), 3, none, true⟩]))))))
  (.seq (.seq (.region [⟨some 64, .move (.tmp 10), 25, none, true⟩, ⟨some 65, .move (.tmp 11), 38, none, true⟩, ⟨some 66, .call (⟨.value (.func 19), #[.tmp 64, .tmp 65], #[25, 38]⟩), 4, none, true⟩, ⟨some 67, .unOp .not 4 (.tmp 66), 4, none, true⟩, ⟨some 68, .move (.tmp 67), 4, none, true⟩, ⟨some 69, .move (.tmp 7), 25, some (some 68), false⟩, ⟨some 70, .move (.tmp 8), 38, some (some 68), false⟩, ⟨some 71, .call (⟨.value (.func 19), #[.tmp 69, .tmp 70], #[25, 38]⟩), 4, some (some 68), false⟩, ⟨some 72, .unOp .not 4 (.tmp 71), 4, some (some 68), false⟩, ⟨some 73, .pick (.tmp 68) (.const (.bool true)) (.tmp 72), 4, none, true⟩])
  (.cond (.tmp 73) (.seq (.region [⟨some 6, .assign (.const (.bool false)), 4, none, true⟩])
  .ret) .skip))
  (.seq (.seq (.region [⟨some 13, .assign (.const (.int .i64 0)), 3, none, true⟩])
  (.block 4 (.loop [false, false, true, false, false, false, false, true, true, false, false, true, false, true, false, false, false, false, false, false, false, false, false, false, false, false, false, false, false, false, false, false, false, false, false, false, false, false, false, false, false, false, false, false, false, false, false, false, false, false, false, false, false, false, false, false, false, false, false, false, false, false, false, false, false, false, false, false, false, false, false, false, false, false, false, false, false, false, false, false, false, false, false, false, false, false, false, false, false, false, false] (.seq (.seq (.region [⟨some 74, .move (.tmp 13), 3, none, true⟩, ⟨some 75, .move (.tmp 2), 36, none, true⟩, ⟨some 76, .call (⟨.builtin .len, #[.tmp 75], #[36]⟩), 3, none, true⟩, ⟨some 77, .binOp .lss 3 (.tmp 74) (.tmp 76) 3, 4, none, true⟩])
  (.cond (.tmp 77) .skip (.exit 4)))
  (.seq (.block 5 (.seq (.region [⟨some 80, .move (.tmp 7), 25, none, true⟩, ⟨some 81, .move (.tmp 8), 38, none, true⟩, ⟨some 82, .move (.tmp 2), 36, none, true⟩, ⟨some 83, .move (.tmp 13), 3, none, true⟩, ⟨some 84, .indexAddr 36 (.tmp 82) (.tmp 83), 0, none, true⟩, ⟨some 85, .load 43 (.tmp 84), 43, none, true⟩, ⟨some 86, .call (⟨.value (.func 20), #[.tmp 80, .tmp 81, .tmp 85], #[25, 38, 43]⟩), 4, none, true⟩, ⟨some 87, .unOp .not 4 (.tmp 86), 4, none, true⟩])
  (.cond (.tmp 87) (.seq (.region [⟨some 6, .assign (.const (.bool false)), 4, none, true⟩])
  .ret) .skip)))
  (.region [⟨some 78, .move (.tmp 13), 3, none, true⟩, ⟨some 79, .binOp .add 3 (.tmp 78) (.const (.int .i64 1)) 3, 3, none, true⟩, ⟨some 13, .assign (.tmp 79), 3, none, true⟩]))))))
  (.seq (.region [⟨some 88, .move (.tmp 7), 25, none, true⟩, ⟨some 89, .move (.tmp 11), 38, none, true⟩, ⟨some 90, .call (⟨.value (.func 19), #[.tmp 88, .tmp 89], #[25, 38]⟩), 4, none, true⟩, ⟨some 6, .assign (.tmp 90), 4, none, true⟩])
  .ret)))))))))))
noncomputable def f6 : AFn := ⟨91, [.tmp 6], b6⟩
/-- novation/novationlaw5.TapeNone -/
noncomputable def b7 : AC :=
  .seq (.region [⟨some 4, .assign (.const (.bool false)), 4, none, true⟩])
  (.seq (.seq (.region [⟨some 8, .call (⟨.value (.func 8), #[], #[]⟩), 4, none, true⟩, ⟨some 9, .unOp .not 4 (.tmp 8), 4, none, true⟩])
  (.cond (.tmp 9) (.seq (.region [⟨some 4, .assign (.const (.bool false)), 4, none, true⟩])
  .ret) .skip))
  (.seq (.region [⟨some 5, .assign (.const (.pointer none)), 25, none, true⟩])
  (.seq (.region [⟨some 11, .move (.tmp 5), 25, none, true⟩, ⟨some 12, .call (⟨.value (.func 15), #[.tmp 11], #[25]⟩), 31, none, true⟩, ⟨some 10, .move (.tmp 12), 31, none, true⟩, ⟨some 13, .extract (.tmp 10) 0, 24, none, true⟩, ⟨some 14, .extract (.tmp 10) 1, 28, none, true⟩, ⟨some 6, .assign (.tmp 13), 24, none, true⟩, ⟨some 7, .assign (.tmp 14), 28, none, true⟩])
  (.seq (.region [⟨some 15, .move (.tmp 5), 25, none, true⟩, ⟨some 16, .move (.tmp 1), 3, none, true⟩, ⟨some 17, .move (.tmp 1), 3, none, true⟩, ⟨some 18, .call (⟨.value (.func 10), #[.tmp 15, .tmp 16, .tmp 17], #[25, 3, 3]⟩), 0, none, true⟩])
  (.seq (.region [⟨some 19, .move (.tmp 5), 25, none, true⟩, ⟨some 20, .call (⟨.value (.func 14), #[.tmp 19], #[25]⟩), 0, none, true⟩])
  (.seq (.region [⟨some 21, .move (.tmp 7), 28, none, true⟩, ⟨some 22, .binOp .eql 28 (.tmp 21) (.const (.int .i64 3)) 28, 4, none, true⟩, ⟨some 23, .move (.tmp 22), 4, none, true⟩, ⟨some 24, .move (.tmp 6), 24, some (some 23), true⟩, ⟨some 25, .call (⟨.builtin .len, #[.tmp 24], #[24]⟩), 3, some (some 23), true⟩, ⟨some 26, .binOp .eql 3 (.tmp 25) (.const (.int .i64 0)) 3, 4, some (some 23), true⟩, ⟨some 27, .pick (.tmp 23) (.tmp 26) (.const (.bool false)), 4, none, true⟩, ⟨some 28, .move (.tmp 27), 4, none, true⟩, ⟨some 29, .move (.tmp 5), 25, some (some 28), true⟩, ⟨some 30, .move (.tmp 0), 24, some (some 28), true⟩, ⟨some 31, .call (⟨.value (.func 11), #[.tmp 29, .tmp 30], #[25, 24]⟩), 28, some (some 28), true⟩, ⟨some 32, .binOp .eql 28 (.tmp 31) (.const (.int .i64 3)) 28, 4, some (some 28), true⟩, ⟨some 33, .pick (.tmp 28) (.tmp 32) (.const (.bool false)), 4, none, true⟩, ⟨some 34, .move (.tmp 33), 4, none, true⟩, ⟨some 35, .move (.tmp 5), 25, some (some 34), true⟩, ⟨some 36, .move (.tmp 1), 3, some (some 34), true⟩, ⟨some 37, .call (⟨.value (.func 13), #[.tmp 35, .tmp 36], #[25, 3]⟩), 28, some (some 34), true⟩, ⟨some 38, .binOp .eql 28 (.tmp 37) (.const (.int .i64 3)) 28, 4, some (some 34), true⟩, ⟨some 39, .pick (.tmp 34) (.tmp 38) (.const (.bool false)), 4, none, true⟩, ⟨some 40, .move (.tmp 39), 4, none, true⟩, ⟨some 41, .move (.tmp 5), 25, some (some 40), true⟩, ⟨some 42, .call (⟨.value (.func 16), #[.tmp 41], #[25]⟩), 3, some (some 40), true⟩, ⟨some 43, .binOp .eql 3 (.tmp 42) (.const (.int .i64 0)) 3, 4, some (some 40), true⟩, ⟨some 44, .pick (.tmp 40) (.tmp 43) (.const (.bool false)), 4, none, true⟩, ⟨some 45, .move (.tmp 44), 4, none, true⟩, ⟨some 46, .move (.tmp 5), 25, some (some 45), true⟩, ⟨some 47, .call (⟨.value (.func 23), #[.tmp 46], #[25]⟩), 3, some (some 45), true⟩, ⟨some 48, .binOp .eql 3 (.tmp 47) (.const (.int .i64 0)) 3, 4, some (some 45), true⟩, ⟨some 49, .pick (.tmp 45) (.tmp 48) (.const (.bool false)), 4, none, true⟩, ⟨some 50, .move (.tmp 49), 4, none, true⟩, ⟨some 51, .move (.tmp 5), 25, some (some 50), true⟩, ⟨some 52, .call (⟨.value (.func 12), #[.tmp 51], #[25]⟩), 4, some (some 50), true⟩, ⟨some 53, .unOp .not 4 (.tmp 52), 4, some (some 50), true⟩, ⟨some 54, .pick (.tmp 50) (.tmp 53) (.const (.bool false)), 4, none, true⟩, ⟨some 55, .move (.tmp 54), 4, none, true⟩, ⟨some 56, .move (.tmp 5), 25, some (some 55), true⟩, ⟨some 57, .call (⟨.value (.func 21), #[.tmp 56], #[25]⟩), 25, some (some 55), true⟩, ⟨some 58, .binOp .eql 25 (.tmp 57) (.const (.pointer none)) 25, 4, some (some 55), true⟩, ⟨some 59, .pick (.tmp 55) (.tmp 58) (.const (.bool false)), 4, none, true⟩, ⟨some 4, .assign (.tmp 59), 4, none, true⟩])
  .ret))))))
noncomputable def f7 : AFn := ⟨60, [.tmp 4], b7⟩
/-- novation/novationlaw5.known -/
noncomputable def b8 : AC :=
  .seq (.region [⟨some 0, .assign (.const (.bool false)), 4, none, true⟩])
  (.seq (.region [⟨some 7, .call (⟨.value (.func 9), #[.const (.int .i64 9)], #[3]⟩), 25, none, true⟩, ⟨some 1, .assign (.tmp 7), 25, none, true⟩])
  (.seq (.seq (.region [⟨some 8, .move (.tmp 1), 25, none, true⟩, ⟨some 9, .binOp .eql 25 (.tmp 8) (.const (.pointer none)) 25, 4, none, true⟩])
  (.cond (.tmp 9) (.seq (.region [⟨some 0, .assign (.const (.bool false)), 4, none, true⟩])
  .ret) .skip))
  (.seq (.region [⟨some 10, .move (.tmp 1), 25, none, true⟩, ⟨some 11, .buildSlice 24 2 #[(0, .const (.int .u8 97)), (1, .const (.int .u8 98))], 24, none, true⟩, ⟨some 12, .convert 24 24 (.tmp 11), 24, none, true⟩, ⟨some 13, .call (⟨.value (.func 11), #[.tmp 10, .tmp 12], #[25, 24]⟩), 28, none, true⟩, ⟨some 2, .assign (.tmp 13), 28, none, true⟩])
  (.seq (.region [⟨some 14, .move (.tmp 1), 25, none, true⟩, ⟨some 15, .call (⟨.value (.func 10), #[.tmp 14, .const (.int .i64 0), .const (.int .i64 1)], #[25, 3, 3]⟩), 0, none, true⟩])
  (.seq (.region [⟨some 16, .move (.tmp 1), 25, none, true⟩, ⟨some 17, .buildSlice 24 2 #[(0, .const (.int .u8 99)), (1, .const (.int .u8 100))], 24, none, true⟩, ⟨some 18, .convert 24 24 (.tmp 17), 24, none, true⟩, ⟨some 19, .call (⟨.value (.func 11), #[.tmp 16, .tmp 18], #[25, 24]⟩), 28, none, true⟩, ⟨some 3, .assign (.tmp 19), 28, none, true⟩])
  (.seq (.region [⟨some 20, .move (.tmp 1), 25, none, true⟩, ⟨some 21, .call (⟨.value (.func 12), #[.tmp 20], #[25]⟩), 4, none, true⟩, ⟨some 4, .assign (.tmp 21), 4, none, true⟩])
  (.seq (.region [⟨some 22, .move (.tmp 1), 25, none, true⟩, ⟨some 23, .call (⟨.value (.func 14), #[.tmp 22], #[25]⟩), 0, none, true⟩])
  (.seq (.region [⟨some 25, .move (.tmp 1), 25, none, true⟩, ⟨some 26, .call (⟨.value (.func 15), #[.tmp 25], #[25]⟩), 31, none, true⟩, ⟨some 24, .move (.tmp 26), 31, none, true⟩, ⟨some 27, .extract (.tmp 24) 0, 24, none, true⟩, ⟨some 28, .extract (.tmp 24) 1, 28, none, true⟩, ⟨some 5, .assign (.tmp 27), 24, none, true⟩, ⟨some 6, .assign (.tmp 28), 28, none, true⟩])
  (.seq (.region [⟨some 29, .move (.tmp 2), 28, none, true⟩, ⟨some 30, .binOp .eql 28 (.tmp 29) (.const (.int .i64 0)) 28, 4, none, true⟩, ⟨some 31, .move (.tmp 30), 4, none, true⟩, ⟨some 32, .move (.tmp 3), 28, some (some 31), true⟩, ⟨some 33, .binOp .eql 28 (.tmp 32) (.const (.int .i64 15)) 28, 4, some (some 31), true⟩, ⟨some 34, .pick (.tmp 31) (.tmp 33) (.const (.bool false)), 4, none, true⟩, ⟨some 35, .move (.tmp 34), 4, none, true⟩, ⟨some 36, .move (.tmp 4), 4, some (some 35), true⟩, ⟨some 37, .pick (.tmp 35) (.tmp 36) (.const (.bool false)), 4, none, true⟩, ⟨some 38, .move (.tmp 37), 4, none, true⟩, ⟨some 39, .move (.tmp 6), 28, some (some 38), true⟩, ⟨some 40, .binOp .eql 28 (.tmp 39) (.const (.int .i64 0)) 28, 4, some (some 38), true⟩, ⟨some 41, .pick (.tmp 38) (.tmp 40) (.const (.bool false)), 4, none, true⟩, ⟨some 42, .move (.tmp 41), 4, none, true⟩, ⟨some 43, .move (.tmp 5), 24, some (some 42), true⟩, ⟨some 44, .convert 24 9 (.tmp 43), 9, some (some 42), true⟩, ⟨some 45, .binOp .eql 9 (.tmp 44) (.const (.string (⟨#[97, 98, 99]⟩))) 9, 4, some (some 42), true⟩, ⟨some 46, .pick (.tmp 42) (.tmp 45) (.const (.bool false)), 4, none, true⟩, ⟨some 47, .move (.tmp 46), 4, none, true⟩, ⟨some 48, .move (.tmp 1), 25, some (some 47), true⟩, ⟨some 49, .call (⟨.value (.func 16), #[.tmp 48], #[25]⟩), 3, some (some 47), true⟩, ⟨some 50, .binOp .eql 3 (.tmp 49) (.const (.int .i64 3)) 3, 4, some (some 47), true⟩, ⟨some 51, .pick (.tmp 47) (.tmp 50) (.const (.bool false)), 4, none, true⟩, ⟨some 52, .move (.tmp 51), 4, none, true⟩, ⟨some 53, .move (.tmp 1), 25, some (some 52), true⟩, ⟨some 54, .call (⟨.value (.func 23), #[.tmp 53], #[25]⟩), 3, some (some 52), true⟩, ⟨some 55, .binOp .eql 3 (.tmp 54) (.const (.int .i64 9)) 3, 4, some (some 52), true⟩, ⟨some 56, .pick (.tmp 52) (.tmp 55) (.const (.bool false)), 4, none, true⟩, ⟨some 57, .move (.tmp 56), 4, none, true⟩, ⟨some 58, .move (.tmp 1), 25, some (some 57), true⟩, ⟨some 59, .call (⟨.value (.func 13), #[.tmp 58, .const (.int .i64 1)], #[25, 3]⟩), 28, some (some 57), true⟩, ⟨some 60, .binOp .eql 28 (.tmp 59) (.const (.int .i64 0)) 28, 4, some (some 57), true⟩, ⟨some 61, .pick (.tmp 57) (.tmp 60) (.const (.bool false)), 4, none, true⟩, ⟨some 62, .move (.tmp 61), 4, none, true⟩, ⟨some 63, .move (.tmp 1), 25, some (some 62), true⟩, ⟨some 64, .call (⟨.value (.func 16), #[.tmp 63], #[25]⟩), 3, some (some 62), true⟩, ⟨some 65, .binOp .eql 3 (.tmp 64) (.const (.int .i64 1)) 3, 4, some (some 62), true⟩, ⟨some 66, .pick (.tmp 62) (.tmp 65) (.const (.bool false)), 4, none, true⟩, ⟨some 67, .move (.tmp 66), 4, none, true⟩, ⟨some 68, .move (.tmp 1), 25, some (some 67), true⟩, ⟨some 69, .makeSlice 24 (.const (.int .i64 9)) (.const (.int .i64 9)), 24, some (some 67), true⟩, ⟨some 70, .call (⟨.value (.func 11), #[.tmp 68, .tmp 69], #[25, 24]⟩), 28, some (some 67), true⟩, ⟨some 71, .binOp .eql 28 (.tmp 70) (.const (.int .i64 14)) 28, 4, some (some 67), true⟩, ⟨some 72, .pick (.tmp 67) (.tmp 71) (.const (.bool false)), 4, none, true⟩, ⟨some 73, .move (.tmp 72), 4, none, true⟩, ⟨some 74, .move (.tmp 1), 25, some (some 73), true⟩, ⟨some 75, .call (⟨.value (.func 12), #[.tmp 74], #[25]⟩), 4, some (some 73), true⟩, ⟨some 76, .unOp .not 4 (.tmp 75), 4, some (some 73), true⟩, ⟨some 77, .pick (.tmp 73) (.tmp 76) (.const (.bool false)), 4, none, true⟩, ⟨some 0, .assign (.tmp 77), 4, none, true⟩])
  .ret)))))))))
noncomputable def f8 : AFn := ⟨78, [.tmp 0], b8⟩
/-- novation/tape.New -/
noncomputable def b9 : AC :=
  .seq (.region [⟨some 2, .assign (.const (.pointer none)), 25, none, true⟩])
  (.seq (.region [⟨some 3, .move (.tmp 0), 3, none, true⟩, ⟨some 4, .call (⟨.builtin .max, #[.tmp 3, .const (.int .i64 0)], #[3, 3]⟩), 3, none, true⟩, ⟨some 5, .call (⟨.builtin .min, #[.tmp 4, .const (.int .i64 1048576)], #[3, 3]⟩), 3, none, true⟩, ⟨some 6, .build 50 #[(1, .tmp 5)], 50, none, true⟩, ⟨some 7, .box 50 (.tmp 6), 25, none, true⟩, ⟨some 2, .assign (.tmp 7), 25, none, true⟩])
  .ret)
noncomputable def f9 : AFn := ⟨8, [.tmp 2], b9⟩
/-- (*novation/tape.Tape).Arm -/
noncomputable def b10 : AC :=
  .seq (.seq (.region [⟨some 6, .move (.tmp 0), 25, none, true⟩, ⟨some 7, .binOp .eql 25 (.tmp 6) (.const (.pointer none)) 25, 4, none, true⟩, ⟨some 8, .move (.tmp 7), 4, none, true⟩, ⟨some 9, .move (.tmp 0), 25, some (some 8), false⟩, ⟨some 10, .nilCheck (.tmp 9), 0, some (some 8), false⟩, ⟨some 11, .fieldAddr 50 (.tmp 10) 3, 0, some (some 8), false⟩, ⟨some 12, .load 4 (.tmp 11), 4, some (some 8), false⟩, ⟨some 13, .pick (.tmp 8) (.const (.bool true)) (.tmp 12), 4, none, true⟩])
  (.cond (.tmp 13) .ret .skip))
  (.region [⟨some 14, .move (.tmp 0), 25, none, true⟩, ⟨some 15, .move (.tmp 0), 25, none, true⟩, ⟨some 16, .move (.tmp 0), 25, none, true⟩, ⟨some 17, .move (.tmp 1), 3, none, true⟩, ⟨some 18, .binOp .geq 3 (.tmp 17) (.const (.int .i64 0)) 3, 4, none, true⟩, ⟨some 19, .move (.tmp 1), 3, none, true⟩, ⟨some 20, .move (.tmp 2), 3, none, true⟩, ⟨some 21, .nilCheck (.tmp 14), 0, none, true⟩, ⟨some 22, .fieldAddr 50 (.tmp 21) 2, 0, none, true⟩, ⟨none, .store 4 (.tmp 22) (.tmp 18), 0, none, true⟩, ⟨some 23, .nilCheck (.tmp 15), 0, none, true⟩, ⟨some 24, .fieldAddr 50 (.tmp 23) 4, 0, none, true⟩, ⟨none, .store 3 (.tmp 24) (.tmp 19), 0, none, true⟩, ⟨some 25, .nilCheck (.tmp 16), 0, none, true⟩, ⟨some 26, .fieldAddr 50 (.tmp 25) 5, 0, none, true⟩, ⟨none, .store 3 (.tmp 26) (.tmp 20), 0, none, true⟩])
noncomputable def f10 : AFn := ⟨27, [], b10⟩
/-- (*novation/tape.Tape).Append -/
noncomputable def b11 : AC :=
  .seq (.region [⟨some 4, .assign (.const (.int .i64 0)), 28, none, true⟩])
  (.seq (.block 0 (.seq (.region [⟨some 6, .move (.tmp 0), 25, none, true⟩, ⟨some 7, .binOp .eql 25 (.tmp 6) (.const (.pointer none)) 25, 4, none, true⟩, ⟨some 5, .assign (.tmp 7), 4, none, true⟩])
  (.cond (.tmp 5) (.seq (.region [⟨some 4, .assign (.const (.int .i64 3)), 28, none, true⟩])
  .ret) (.seq (.region [⟨some 9, .move (.tmp 0), 25, none, true⟩, ⟨some 10, .nilCheck (.tmp 9), 0, none, true⟩, ⟨some 11, .fieldAddr 50 (.tmp 10) 3, 0, none, true⟩, ⟨some 12, .load 4 (.tmp 11), 4, none, true⟩, ⟨some 8, .assign (.tmp 12), 4, none, true⟩])
  (.cond (.tmp 8) (.seq (.region [⟨some 4, .assign (.const (.int .i64 15)), 28, none, true⟩])
  .ret) (.seq (.draw (drawOf T.c11 5) [0, 1, 2, 3, 4, 5, 6, 7, 8, 9, 10, 11, 12, 13] [[], [0], [0, 1], [0, 1, 2], [0, 1, 2, 3], [], [5], [0, 1, 2, 3, 4, 5, 6], [], [8], [8, 9], [8, 9, 10], [0, 1, 2, 3, 4, 5, 6, 7, 8, 9, 10, 11], [0, 1, 2, 3, 4, 5, 6, 7, 8, 9, 10, 11, 12]])
  (.cond (.tmp 13) (.seq (.region [⟨some 4, .assign (.const (.int .i64 14)), 28, none, true⟩])
  .ret) (.seq (.region [⟨some 28, .move (.tmp 0), 25, none, true⟩, ⟨some 29, .call (⟨.value (.func 24), #[.tmp 28], #[25]⟩), 4, none, true⟩, ⟨some 27, .assign (.tmp 29), 4, none, true⟩])
  (.cond (.tmp 27) (.seq (.draw (drawOf T.c11 8) [0, 1, 2, 3, 4, 5, 6, 7, 8, 9, 10, 11, 12, 13, 14, 15, 16, 17, 18] [[], [], [1], [1, 2], [1, 2, 3], [], [], [6], [6, 7], [6, 7, 8], [6, 7, 8, 9], [], [11], [6, 7, 8, 9, 10, 11, 12], [5, 6, 7, 8, 9, 10, 11, 12, 13], [1, 2, 3, 4, 5, 6, 7, 8, 9, 10, 11, 12, 13, 14], [0, 1, 2, 3, 4, 5, 6, 7, 8, 9, 10, 11, 12, 13, 14, 15], [0, 1, 2, 3, 4, 5, 6, 7, 8, 9, 10, 11, 12, 13, 14, 15, 16], [0, 1, 2, 3, 4, 5, 6, 7, 8, 9, 10, 11, 12, 13, 14, 15, 16, 17]])
  (.seq (.region [⟨some 4, .assign (.const (.int .i64 15)), 28, none, true⟩])
  .ret)) .skip)))))))))
  (.seq (.region [⟨some 48, .move (.tmp 0), 25, none, true⟩, ⟨some 49, .move (.tmp 0), 25, none, true⟩, ⟨some 50, .nilCheck (.tmp 49), 0, none, true⟩, ⟨some 51, .fieldAddr 50 (.tmp 50) 0, 0, none, true⟩, ⟨some 52, .load 24 (.tmp 51), 24, none, true⟩, ⟨some 53, .move (.tmp 1), 24, none, true⟩, ⟨some 54, .call (⟨.builtin .append, #[.tmp 52, .tmp 53], #[24, 24]⟩), 24, none, true⟩, ⟨some 55, .nilCheck (.tmp 48), 0, none, true⟩, ⟨some 56, .fieldAddr 50 (.tmp 55) 0, 0, none, true⟩, ⟨none, .store 24 (.tmp 56) (.tmp 54), 0, none, true⟩])
  (.seq (.region [⟨some 4, .assign (.const (.int .i64 0)), 28, none, true⟩])
  .ret)))
noncomputable def f11 : AFn := ⟨57, [.tmp 4], b11⟩
/-- (*novation/tape.Tape).Down -/
noncomputable def b12 : AC :=
  .seq (.region [⟨some 2, .assign (.const (.bool false)), 4, none, true⟩])
  (.seq (.region [⟨some 3, .move (.tmp 0), 25, none, true⟩, ⟨some 4, .binOp .neq 25 (.tmp 3) (.const (.pointer none)) 25, 4, none, true⟩, ⟨some 5, .move (.tmp 4), 4, none, true⟩, ⟨some 6, .move (.tmp 0), 25, some (some 5), true⟩, ⟨some 7, .nilCheck (.tmp 6), 0, some (some 5), true⟩, ⟨some 8, .fieldAddr 50 (.tmp 7) 3, 0, some (some 5), true⟩, ⟨some 9, .load 4 (.tmp 8), 4, some (some 5), true⟩, ⟨some 10, .pick (.tmp 5) (.tmp 9) (.const (.bool false)), 4, none, true⟩, ⟨some 2, .assign (.tmp 10), 4, none, true⟩])
  .ret)
noncomputable def f12 : AFn := ⟨11, [.tmp 2], b12⟩
/-- (*novation/tape.Tape).Cut -/
noncomputable def b13 : AC :=
  .seq (.region [⟨some 4, .assign (.const (.int .i64 0)), 28, none, true⟩])
  (.seq (.block 0 (.seq (.region [⟨some 6, .move (.tmp 0), 25, none, true⟩, ⟨some 7, .binOp .eql 25 (.tmp 6) (.const (.pointer none)) 25, 4, none, true⟩, ⟨some 5, .assign (.tmp 7), 4, none, true⟩])
  (.cond (.tmp 5) (.seq (.region [⟨some 4, .assign (.const (.int .i64 3)), 28, none, true⟩])
  .ret) (.seq (.region [⟨some 9, .move (.tmp 0), 25, none, true⟩, ⟨some 10, .nilCheck (.tmp 9), 0, none, true⟩, ⟨some 11, .fieldAddr 50 (.tmp 10) 3, 0, none, true⟩, ⟨some 12, .load 4 (.tmp 11), 4, none, true⟩, ⟨some 8, .assign (.tmp 12), 4, none, true⟩])
  (.cond (.tmp 8) (.seq (.region [⟨some 4, .assign (.const (.int .i64 15)), 28, none, true⟩])
  .ret) (.seq (.region [⟨some 14, .move (.tmp 1), 3, none, true⟩, ⟨some 15, .binOp .lss 3 (.tmp 14) (.const (.int .i64 0)) 3, 4, none, true⟩, ⟨some 16, .move (.tmp 15), 4, none, true⟩, ⟨some 17, .move (.tmp 1), 3, some (some 16), false⟩, ⟨some 18, .move (.tmp 0), 25, some (some 16), false⟩, ⟨some 19, .nilCheck (.tmp 18), 0, some (some 16), false⟩, ⟨some 20, .fieldAddr 50 (.tmp 19) 0, 0, some (some 16), false⟩, ⟨some 21, .load 24 (.tmp 20), 24, some (some 16), false⟩, ⟨some 22, .call (⟨.builtin .len, #[.tmp 21], #[24]⟩), 3, some (some 16), false⟩, ⟨some 23, .binOp .gtr 3 (.tmp 17) (.tmp 22) 3, 4, some (some 16), false⟩, ⟨some 24, .pick (.tmp 16) (.const (.bool true)) (.tmp 23), 4, none, true⟩, ⟨some 13, .assign (.tmp 24), 4, none, true⟩])
  (.cond (.tmp 13) (.seq (.region [⟨some 4, .assign (.const (.int .i64 1)), 28, none, true⟩])
  .ret) (.seq (.region [⟨some 26, .move (.tmp 0), 25, none, true⟩, ⟨some 27, .call (⟨.value (.func 24), #[.tmp 26], #[25]⟩), 4, none, true⟩, ⟨some 25, .assign (.tmp 27), 4, none, true⟩])
  (.cond (.tmp 25) (.seq (.seq (.region [⟨some 28, .move (.tmp 0), 25, none, true⟩, ⟨some 29, .nilCheck (.tmp 28), 0, none, true⟩, ⟨some 30, .fieldAddr 50 (.tmp 29) 5, 0, none, true⟩, ⟨some 31, .load 3 (.tmp 30), 3, none, true⟩, ⟨some 32, .binOp .gtr 3 (.tmp 31) (.const (.int .i64 0)) 3, 4, none, true⟩])
  (.cond (.tmp 32) (.region [⟨some 33, .move (.tmp 0), 25, none, true⟩, ⟨some 34, .move (.tmp 0), 25, none, true⟩, ⟨some 35, .nilCheck (.tmp 34), 0, none, true⟩, ⟨some 36, .fieldAddr 50 (.tmp 35) 0, 0, none, true⟩, ⟨some 37, .load 24 (.tmp 36), 24, none, true⟩, ⟨some 38, .move (.tmp 1), 3, none, true⟩, ⟨some 39, .slice 24 (.tmp 37) none (some (.tmp 38)) none, 24, none, true⟩, ⟨some 40, .nilCheck (.tmp 33), 0, none, true⟩, ⟨some 41, .fieldAddr 50 (.tmp 40) 0, 0, none, true⟩, ⟨none, .store 24 (.tmp 41) (.tmp 39), 0, none, true⟩]) .skip))
  (.seq (.region [⟨some 4, .assign (.const (.int .i64 15)), 28, none, true⟩])
  .ret)) .skip)))))))))
  (.seq (.region [⟨some 42, .move (.tmp 0), 25, none, true⟩, ⟨some 43, .move (.tmp 0), 25, none, true⟩, ⟨some 44, .nilCheck (.tmp 43), 0, none, true⟩, ⟨some 45, .fieldAddr 50 (.tmp 44) 0, 0, none, true⟩, ⟨some 46, .load 24 (.tmp 45), 24, none, true⟩, ⟨some 47, .move (.tmp 1), 3, none, true⟩, ⟨some 48, .slice 24 (.tmp 46) none (some (.tmp 47)) none, 24, none, true⟩, ⟨some 49, .nilCheck (.tmp 42), 0, none, true⟩, ⟨some 50, .fieldAddr 50 (.tmp 49) 0, 0, none, true⟩, ⟨none, .store 24 (.tmp 50) (.tmp 48), 0, none, true⟩])
  (.seq (.region [⟨some 4, .assign (.const (.int .i64 0)), 28, none, true⟩])
  .ret)))
noncomputable def f13 : AFn := ⟨51, [.tmp 4], b13⟩
/-- (*novation/tape.Tape).Wake -/
noncomputable def b14 : AC :=
  .seq (.region [⟨some 2, .move (.tmp 0), 25, none, true⟩, ⟨some 3, .binOp .neq 25 (.tmp 2) (.const (.pointer none)) 25, 4, none, true⟩])
  (.cond (.tmp 3) (.region [⟨some 4, .move (.tmp 0), 25, none, true⟩, ⟨some 5, .move (.tmp 0), 25, none, true⟩, ⟨some 6, .nilCheck (.tmp 4), 0, none, true⟩, ⟨some 7, .fieldAddr 50 (.tmp 6) 2, 0, none, true⟩, ⟨none, .store 4 (.tmp 7) (.const (.bool false)), 0, none, true⟩, ⟨some 8, .nilCheck (.tmp 5), 0, none, true⟩, ⟨some 9, .fieldAddr 50 (.tmp 8) 3, 0, none, true⟩, ⟨none, .store 4 (.tmp 9) (.const (.bool false)), 0, none, true⟩]) .skip)
noncomputable def f14 : AFn := ⟨10, [], b14⟩
/-- (*novation/tape.Tape).Read -/
noncomputable def b15 : AC :=
  .seq (.region [⟨some 2, .assign (.const (.slice none 0 0)), 24, none, true⟩, ⟨some 3, .assign (.const (.int .i64 0)), 28, none, true⟩])
  (.seq (.block 0 (.seq (.region [⟨some 5, .move (.tmp 0), 25, none, true⟩, ⟨some 6, .binOp .eql 25 (.tmp 5) (.const (.pointer none)) 25, 4, none, true⟩, ⟨some 4, .assign (.tmp 6), 4, none, true⟩])
  (.cond (.tmp 4) (.seq (.region [⟨some 2, .assign (.const (.slice none 0 0)), 24, none, true⟩, ⟨some 3, .assign (.const (.int .i64 3)), 28, none, true⟩])
  .ret) (.seq (.region [⟨some 8, .move (.tmp 0), 25, none, true⟩, ⟨some 9, .nilCheck (.tmp 8), 0, none, true⟩, ⟨some 10, .fieldAddr 50 (.tmp 9) 3, 0, none, true⟩, ⟨some 11, .load 4 (.tmp 10), 4, none, true⟩, ⟨some 7, .assign (.tmp 11), 4, none, true⟩])
  (.cond (.tmp 7) (.seq (.region [⟨some 2, .assign (.const (.slice none 0 0)), 24, none, true⟩, ⟨some 3, .assign (.const (.int .i64 15)), 28, none, true⟩])
  .ret) .skip)))))
  (.seq (.region [⟨some 12, .move (.tmp 0), 25, none, true⟩, ⟨some 13, .nilCheck (.tmp 12), 0, none, true⟩, ⟨some 14, .fieldAddr 50 (.tmp 13) 0, 0, none, true⟩, ⟨some 15, .load 24 (.tmp 14), 24, none, true⟩, ⟨some 16, .call (⟨.value (.func 25), #[.tmp 15], #[24]⟩), 24, none, true⟩, ⟨some 2, .assign (.tmp 16), 24, none, true⟩, ⟨some 3, .assign (.const (.int .i64 0)), 28, none, true⟩])
  .ret))
noncomputable def f15 : AFn := ⟨17, [.tmp 2, .tmp 3], b15⟩
/-- (*novation/tape.Tape).Len -/
noncomputable def b16 : AC :=
  .seq (.region [⟨some 2, .assign (.const (.int .i64 0)), 3, none, true⟩])
  (.seq (.seq (.region [⟨some 3, .move (.tmp 0), 25, none, true⟩, ⟨some 4, .binOp .eql 25 (.tmp 3) (.const (.pointer none)) 25, 4, none, true⟩])
  (.cond (.tmp 4) (.seq (.region [⟨some 2, .assign (.const (.int .i64 0)), 3, none, true⟩])
  .ret) .skip))
  (.seq (.region [⟨some 5, .move (.tmp 0), 25, none, true⟩, ⟨some 6, .nilCheck (.tmp 5), 0, none, true⟩, ⟨some 7, .fieldAddr 50 (.tmp 6) 0, 0, none, true⟩, ⟨some 8, .load 24 (.tmp 7), 24, none, true⟩, ⟨some 9, .call (⟨.builtin .len, #[.tmp 8], #[24]⟩), 3, none, true⟩, ⟨some 2, .assign (.tmp 9), 3, none, true⟩])
  .ret))
noncomputable def f16 : AFn := ⟨10, [.tmp 2], b16⟩
/-- novation/novationlaw5.light -/
noncomputable def b17 : AC :=
  .seq (.region [⟨some 2, .assign (.const (.bool false)), 4, none, true⟩])
  (.seq (.seq (.region [⟨some 4, .move (.tmp 0), 36, none, true⟩, ⟨some 5, .call (⟨.builtin .len, #[.tmp 4], #[36]⟩), 3, none, true⟩, ⟨some 6, .binOp .gtr 3 (.tmp 5) (.const (.int .i64 60)) 3, 4, none, true⟩])
  (.cond (.tmp 6) (.seq (.region [⟨some 2, .assign (.const (.bool false)), 4, none, true⟩])
  .ret) .skip))
  (.seq (.seq (.region [⟨some 3, .assign (.const (.int .i64 0)), 3, none, true⟩])
  (.block 0 (.loop [true, false, false, true, false, false, false, false, false, false, false, false, false, false, false, false, false, false, false, false] (.seq (.seq (.region [⟨some 7, .move (.tmp 3), 3, none, true⟩, ⟨some 8, .move (.tmp 0), 36, none, true⟩, ⟨some 9, .call (⟨.builtin .len, #[.tmp 8], #[36]⟩), 3, none, true⟩, ⟨some 10, .binOp .lss 3 (.tmp 7) (.tmp 9) 3, 4, none, true⟩])
  (.cond (.tmp 10) .skip (.exit 0)))
  (.seq (.block 1 (.seq (.region [⟨some 13, .move (.tmp 0), 36, none, true⟩, ⟨some 14, .move (.tmp 3), 3, none, true⟩, ⟨some 15, .indexAddr 36 (.tmp 13) (.tmp 14), 0, none, true⟩, ⟨some 16, .fieldAddr 43 (.tmp 15) 1, 0, none, true⟩, ⟨some 17, .load 24 (.tmp 16), 24, none, true⟩, ⟨some 18, .call (⟨.builtin .len, #[.tmp 17], #[24]⟩), 3, none, true⟩, ⟨some 19, .binOp .gtr 3 (.tmp 18) (.const (.int .i64 200)) 3, 4, none, true⟩])
  (.cond (.tmp 19) (.seq (.region [⟨some 2, .assign (.const (.bool false)), 4, none, true⟩])
  .ret) .skip)))
  (.region [⟨some 11, .move (.tmp 3), 3, none, true⟩, ⟨some 12, .binOp .add 3 (.tmp 11) (.const (.int .i64 1)) 3, 3, none, true⟩, ⟨some 3, .assign (.tmp 12), 3, none, true⟩]))))))
  (.seq (.region [⟨some 2, .assign (.const (.bool true)), 4, none, true⟩])
  .ret)))
noncomputable def f17 : AFn := ⟨20, [.tmp 2], b17⟩
/-- novation/novationref4.NewTape -/
noncomputable def b18 : AC :=
  .seq (.region [⟨some 2, .assign (.const (.pointer none)), 38, none, true⟩])
  (.seq (.region [⟨some 3, .move (.tmp 0), 3, none, true⟩, ⟨some 4, .call (⟨.builtin .max, #[.tmp 3, .const (.int .i64 0)], #[3, 3]⟩), 3, none, true⟩, ⟨some 5, .call (⟨.builtin .min, #[.tmp 4, .const (.int .i64 1048576)], #[3, 3]⟩), 3, none, true⟩, ⟨some 6, .build 53 #[(1, .tmp 5)], 53, none, true⟩, ⟨some 7, .box 53 (.tmp 6), 38, none, true⟩, ⟨some 2, .assign (.tmp 7), 38, none, true⟩])
  .ret)
noncomputable def f18 : AFn := ⟨8, [.tmp 2], b18⟩
/-- novation/novationlaw5.alike -/
noncomputable def b19 : AC :=
  .seq (.region [⟨some 4, .assign (.const (.bool false)), 4, none, true⟩])
  (.seq (.region [⟨some 8, .move (.tmp 0), 25, none, true⟩, ⟨some 9, .call (⟨.value (.func 21), #[.tmp 8], #[25]⟩), 25, none, true⟩, ⟨some 5, .assign (.tmp 9), 25, none, true⟩])
  (.seq (.seq (.draw (drawOf T.c19 2) [0, 1, 2, 3, 5, 6, 7, 8, 9, 4, 10, 11, 12, 13, 15, 16, 17, 18, 14, 19, 20, 21, 22, 24, 25, 26, 27, 23, 28, 29, 30, 31, 33, 34, 35, 36, 32, 37, 38] [[], [0], [0, 1], [0, 1, 2], [0, 1, 2, 3], [0, 1, 2], [0, 1, 2, 5], [0, 1, 2, 5, 6], [0, 1, 2, 5, 6, 7], [0, 1, 2, 5, 6, 7, 8], [0, 1, 2, 3, 4, 5, 6, 7, 8, 9], [0, 1, 2, 3, 4, 5, 6, 7, 8, 9, 10], [0, 1, 2, 3, 4, 5, 6, 7, 8, 9, 10, 11], [0, 1, 2, 3, 4, 5, 6, 7, 8, 9, 10, 11, 12], [0, 1, 2, 3, 4, 5, 6, 7, 8, 9, 10, 11, 12, 13], [0, 1, 2, 3, 4, 5, 6, 7, 8, 9, 10, 11, 12], [0, 1, 2, 3, 4, 5, 6, 7, 8, 9, 10, 11, 12, 15], [0, 1, 2, 3, 4, 5, 6, 7, 8, 9, 10, 11, 12, 15, 16], [0, 1, 2, 3, 4, 5, 6, 7, 8, 9, 10, 11, 12, 15, 16, 17], [0, 1, 2, 3, 4, 5, 6, 7, 8, 9, 10, 11, 12, 13, 14, 15, 16, 17, 18], [0, 1, 2, 3, 4, 5, 6, 7, 8, 9, 10, 11, 12, 13, 14, 15, 16, 17, 18, 19], [0, 1, 2, 3, 4, 5, 6, 7, 8, 9, 10, 11, 12, 13, 14, 15, 16, 17, 18, 19, 20], [0, 1, 2, 3, 4, 5, 6, 7, 8, 9, 10, 11, 12, 13, 14, 15, 16, 17, 18, 19, 20, 21], [0, 1, 2, 3, 4, 5, 6, 7, 8, 9, 10, 11, 12, 13, 14, 15, 16, 17, 18, 19, 20, 21, 22], [0, 1, 2, 3, 4, 5, 6, 7, 8, 9, 10, 11, 12, 13, 14, 15, 16, 17, 18, 19, 20, 21], [0, 1, 2, 3, 4, 5, 6, 7, 8, 9, 10, 11, 12, 13, 14, 15, 16, 17, 18, 19, 20, 21, 24], [0, 1, 2, 3, 4, 5, 6, 7, 8, 9, 10, 11, 12, 13, 14, 15, 16, 17, 18, 19, 20, 21, 24, 25], [0, 1, 2, 3, 4, 5, 6, 7, 8, 9, 10, 11, 12, 13, 14, 15, 16, 17, 18, 19, 20, 21, 24, 25, 26], [0, 1, 2, 3, 4, 5, 6, 7, 8, 9, 10, 11, 12, 13, 14, 15, 16, 17, 18, 19, 20, 21, 22, 23, 24, 25, 26, 27], [0, 1, 2, 3, 4, 5, 6, 7, 8, 9, 10, 11, 12, 13, 14, 15, 16, 17, 18, 19, 20, 21, 22, 23, 24, 25, 26, 27, 28], [0, 1, 2, 3, 4, 5, 6, 7, 8, 9, 10, 11, 12, 13, 14, 15, 16, 17, 18, 19, 20, 21, 22, 23, 24, 25, 26, 27, 28, 29], [0, 1, 2, 3, 4, 5, 6, 7, 8, 9, 10, 11, 12, 13, 14, 15, 16, 17, 18, 19, 20, 21, 22, 23, 24, 25, 26, 27, 28, 29, 30], [0, 1, 2, 3, 4, 5, 6, 7, 8, 9, 10, 11, 12, 13, 14, 15, 16, 17, 18, 19, 20, 21, 22, 23, 24, 25, 26, 27, 28, 29, 30, 31], [0, 1, 2, 3, 4, 5, 6, 7, 8, 9, 10, 11, 12, 13, 14, 15, 16, 17, 18, 19, 20, 21, 22, 23, 24, 25, 26, 27, 28, 29, 30], [0, 1, 2, 3, 4, 5, 6, 7, 8, 9, 10, 11, 12, 13, 14, 15, 16, 17, 18, 19, 20, 21, 22, 23, 24, 25, 26, 27, 28, 29, 30, 33], [0, 1, 2, 3, 4, 5, 6, 7, 8, 9, 10, 11, 12, 13, 14, 15, 16, 17, 18, 19, 20, 21, 22, 23, 24, 25, 26, 27, 28, 29, 30, 33, 34], [0, 1, 2, 3, 4, 5, 6, 7, 8, 9, 10, 11, 12, 13, 14, 15, 16, 17, 18, 19, 20, 21, 22, 23, 24, 25, 26, 27, 28, 29, 30, 33, 34, 35], [0, 1, 2, 3, 4, 5, 6, 7, 8, 9, 10, 11, 12, 13, 14, 15, 16, 17, 18, 19, 20, 21, 22, 23, 24, 25, 26, 27, 28, 29, 30, 31, 32, 33, 34, 35, 36], [0, 1, 2, 3, 4, 5, 6, 7, 8, 9, 10, 11, 12, 13, 14, 15, 16, 17, 18, 19, 20, 21, 22, 23, 24, 25, 26, 27, 28, 29, 30, 31, 32, 33, 34, 35, 36, 37]])
  (.cond (.tmp 48) (.seq (.region [⟨some 4, .assign (.const (.bool false)), 4, none, true⟩])
  .ret) .skip))
  (.seq (.region [⟨some 49, .move (.tmp 5), 25, none, true⟩, ⟨some 50, .call (⟨.value (.func 14), #[.tmp 49], #[25]⟩), 0, none, true⟩])
  (.seq (.region [⟨some 52, .move (.tmp 5), 25, none, true⟩, ⟨some 53, .call (⟨.value (.func 15), #[.tmp 52], #[25]⟩), 31, none, true⟩, ⟨some 51, .move (.tmp 53), 31, none, true⟩, ⟨some 54, .extract (.tmp 51) 0, 24, none, true⟩, ⟨some 55, .extract (.tmp 51) 1, 28, none, true⟩, ⟨some 6, .assign (.tmp 54), 24, none, true⟩, ⟨some 7, .assign (.tmp 55), 28, none, true⟩])
  (.seq (.draw (drawOf T.c19 6) [0, 1, 2, 3, 4, 5, 6, 7, 8, 9, 10, 11, 12] [[], [0], [0, 1], [0, 1, 2], [0, 1, 2, 3], [0, 1, 2], [0, 1, 2, 5], [0, 1, 2, 5, 6], [0, 1, 2, 5, 6, 7], [0, 1, 2, 5, 6, 7, 8], [0, 1, 2, 3, 4, 5, 6, 7, 8, 9], [0, 1, 2, 3, 4, 5, 6, 7, 8, 9, 10], [0, 1, 2, 3, 4, 5, 6, 7, 8, 9, 10, 11]])
  .ret)))))
noncomputable def f19 : AFn := ⟨68, [.tmp 4], b19⟩
/-- novation/novationlaw5.do -/
noncomputable def b20 : AC :=
  .seq (.region [⟨some 5, .box 43 (.tmp 2), 0, none, true⟩, ⟨some 6, .assign (.const (.bool false)), 4, none, true⟩])
  (.seq (.seq (.region [⟨some 11, .fieldAddr 43 (.tmp 5) 0, 0, none, true⟩, ⟨some 12, .load 5 (.tmp 11), 5, none, true⟩, ⟨some 13, .binOp .rem 5 (.tmp 12) (.const (.int .u8 5)) 5, 5, none, true⟩])
  (.block 0 (.seq (.region [⟨some 19, .binOp .eql 5 (.tmp 13) (.const (.int .u8 0)) 5, 4, none, true⟩, ⟨some 18, .assign (.tmp 19), 4, none, true⟩])
  (.cond (.tmp 18) (.seq (.draw (drawOf T.c20 5) [0, 1, 2, 4, 5, 6, 3, 7, 8, 9] [[], [], [1], [0, 1, 2], [], [], [5], [0, 1, 2, 3, 4, 5, 6], [0, 1, 2, 3, 4, 5, 6, 7], [0, 1, 2, 3, 4, 5, 6, 7, 8]])
  .ret) (.seq (.region [⟨some 30, .binOp .eql 5 (.tmp 13) (.const (.int .u8 1)) 5, 4, none, true⟩, ⟨some 29, .assign (.tmp 30), 4, none, true⟩])
  (.cond (.tmp 29) (.seq (.draw (drawOf T.c20 7) [0, 1, 2, 4, 5, 6, 3, 7, 8, 9] [[], [], [1], [0, 1, 2], [], [], [5], [0, 1, 2, 3, 4, 5, 6], [0, 1, 2, 3, 4, 5, 6, 7], [0, 1, 2, 3, 4, 5, 6, 7, 8]])
  .ret) (.seq (.region [⟨some 41, .binOp .eql 5 (.tmp 13) (.const (.int .u8 2)) 5, 4, none, true⟩, ⟨some 40, .assign (.tmp 41), 4, none, true⟩])
  (.cond (.tmp 40) (.seq (.region [⟨some 43, .move (.tmp 0), 25, none, true⟩, ⟨some 44, .call (⟨.value (.func 15), #[.tmp 43], #[25]⟩), 31, none, true⟩, ⟨some 42, .move (.tmp 44), 31, none, true⟩, ⟨some 45, .extract (.tmp 42) 0, 24, none, true⟩, ⟨some 46, .extract (.tmp 42) 1, 28, none, true⟩, ⟨some 7, .assign (.tmp 45), 24, none, true⟩, ⟨some 8, .assign (.tmp 46), 28, none, true⟩])
  (.seq (.region [⟨some 48, .move (.tmp 1), 38, none, true⟩, ⟨some 49, .call (⟨.value (.func 28), #[.tmp 48], #[38]⟩), 31, none, true⟩, ⟨some 47, .move (.tmp 49), 31, none, true⟩, ⟨some 50, .extract (.tmp 47) 0, 24, none, true⟩, ⟨some 51, .extract (.tmp 47) 1, 28, none, true⟩, ⟨some 9, .assign (.tmp 50), 24, none, true⟩, ⟨some 10, .assign (.tmp 51), 28, none, true⟩])
  (.seq (.region [⟨some 52, .move (.tmp 8), 28, none, true⟩, ⟨some 53, .move (.tmp 10), 28, none, true⟩, ⟨some 54, .binOp .eql 28 (.tmp 52) (.tmp 53) 28, 4, none, true⟩, ⟨some 55, .move (.tmp 54), 4, none, true⟩, ⟨some 56, .move (.tmp 7), 24, some (some 55), true⟩, ⟨some 57, .convert 24 9 (.tmp 56), 9, some (some 55), true⟩, ⟨some 58, .move (.tmp 9), 24, some (some 55), true⟩, ⟨some 59, .convert 24 9 (.tmp 58), 9, some (some 55), true⟩, ⟨some 60, .binOp .eql 9 (.tmp 57) (.tmp 59) 9, 4, some (some 55), true⟩, ⟨some 61, .pick (.tmp 55) (.tmp 60) (.const (.bool false)), 4, none, true⟩, ⟨some 6, .assign (.tmp 61), 4, none, true⟩])
  .ret))) (.seq (.region [⟨some 63, .binOp .eql 5 (.tmp 13) (.const (.int .u8 3)) 5, 4, none, true⟩, ⟨some 62, .assign (.tmp 63), 4, none, true⟩])
  (.cond (.tmp 62) (.seq (.region [⟨some 64, .move (.tmp 0), 25, none, true⟩, ⟨some 65, .fieldAddr 43 (.tmp 5) 2, 0, none, true⟩, ⟨some 66, .load 3 (.tmp 65), 3, none, true⟩, ⟨some 67, .fieldAddr 43 (.tmp 5) 3, 0, none, true⟩, ⟨some 68, .load 3 (.tmp 67), 3, none, true⟩, ⟨some 69, .call (⟨.value (.func 10), #[.tmp 64, .tmp 66, .tmp 68], #[25, 3, 3]⟩), 0, none, true⟩])
  (.region [⟨some 70, .move (.tmp 1), 38, none, true⟩, ⟨some 71, .fieldAddr 43 (.tmp 5) 2, 0, none, true⟩, ⟨some 72, .load 3 (.tmp 71), 3, none, true⟩, ⟨some 73, .fieldAddr 43 (.tmp 5) 3, 0, none, true⟩, ⟨some 74, .load 3 (.tmp 73), 3, none, true⟩, ⟨some 75, .call (⟨.value (.func 29), #[.tmp 70, .tmp 72, .tmp 74], #[38, 3, 3]⟩), 0, none, true⟩])) (.seq (.region [⟨some 14, .move (.tmp 0), 25, none, true⟩, ⟨some 15, .call (⟨.value (.func 14), #[.tmp 14], #[25]⟩), 0, none, true⟩])
  (.region [⟨some 16, .move (.tmp 1), 38, none, true⟩, ⟨some 17, .call (⟨.value (.func 30), #[.tmp 16], #[38]⟩), 0, none, true⟩]))))))))))))
  (.seq (.region [⟨some 6, .assign (.const (.bool true)), 4, none, true⟩])
  .ret))
noncomputable def f20 : AFn := ⟨76, [.tmp 6], b20⟩
/-- (*novation/tape.Tape).Copy -/
noncomputable def b21 : AC :=
  .seq (.region [⟨some 2, .assign (.const (.pointer none)), 25, none, true⟩])
  (.seq (.seq (.region [⟨some 4, .move (.tmp 0), 25, none, true⟩, ⟨some 5, .binOp .eql 25 (.tmp 4) (.const (.pointer none)) 25, 4, none, true⟩])
  (.cond (.tmp 5) (.seq (.region [⟨some 2, .assign (.const (.pointer none)), 25, none, true⟩])
  .ret) .skip))
  (.seq (.region [⟨some 6, .move (.tmp 0), 25, none, true⟩, ⟨some 7, .nilCheck (.tmp 6), 0, none, true⟩, ⟨some 8, .load 50 (.tmp 7), 50, none, true⟩, ⟨some 3, .alloc 50, 0, none, true⟩, ⟨none, .store 50 (.tmp 3) (.tmp 8), 0, none, true⟩])
  (.seq (.region [⟨some 9, .move (.tmp 0), 25, none, true⟩, ⟨some 10, .nilCheck (.tmp 9), 0, none, true⟩, ⟨some 11, .fieldAddr 50 (.tmp 10) 0, 0, none, true⟩, ⟨some 12, .load 24 (.tmp 11), 24, none, true⟩, ⟨some 13, .call (⟨.value (.func 25), #[.tmp 12], #[24]⟩), 24, none, true⟩, ⟨some 14, .fieldAddr 50 (.tmp 3) 0, 0, none, true⟩, ⟨none, .store 24 (.tmp 14) (.tmp 13), 0, none, true⟩])
  (.seq (.region [⟨some 2, .assign (.tmp 3), 25, none, true⟩])
  .ret))))
noncomputable def f21 : AFn := ⟨15, [.tmp 2], b21⟩
/-- (*novation/novationref4.Tape).Copy -/
noncomputable def b22 : AC :=
  .seq (.region [⟨some 2, .assign (.const (.pointer none)), 38, none, true⟩])
  (.seq (.region [⟨some 4, .move (.tmp 0), 38, none, true⟩, ⟨some 5, .nilCheck (.tmp 4), 0, none, true⟩, ⟨some 6, .load 53 (.tmp 5), 53, none, true⟩, ⟨some 3, .alloc 53, 0, none, true⟩, ⟨none, .store 53 (.tmp 3) (.tmp 6), 0, none, true⟩])
  (.seq (.region [⟨some 7, .buildSlice 24 0 #[], 24, none, true⟩, ⟨some 8, .move (.tmp 0), 38, none, true⟩, ⟨some 9, .nilCheck (.tmp 8), 0, none, true⟩, ⟨some 10, .fieldAddr 53 (.tmp 9) 0, 0, none, true⟩, ⟨some 11, .load 24 (.tmp 10), 24, none, true⟩, ⟨some 12, .call (⟨.builtin .append, #[.tmp 7, .tmp 11], #[24, 24]⟩), 24, none, true⟩, ⟨some 13, .fieldAddr 53 (.tmp 3) 0, 0, none, true⟩, ⟨none, .store 24 (.tmp 13) (.tmp 12), 0, none, true⟩])
  (.seq (.region [⟨some 2, .assign (.tmp 3), 38, none, true⟩])
  .ret)))
noncomputable def f22 : AFn := ⟨14, [.tmp 2], b22⟩
/-- (*novation/tape.Tape).Room -/
noncomputable def b23 : AC :=
  .seq (.region [⟨some 2, .assign (.const (.int .i64 0)), 3, none, true⟩])
  (.seq (.seq (.region [⟨some 3, .move (.tmp 0), 25, none, true⟩, ⟨some 4, .binOp .eql 25 (.tmp 3) (.const (.pointer none)) 25, 4, none, true⟩])
  (.cond (.tmp 4) (.seq (.region [⟨some 2, .assign (.const (.int .i64 0)), 3, none, true⟩])
  .ret) .skip))
  (.seq (.region [⟨some 5, .move (.tmp 0), 25, none, true⟩, ⟨some 6, .nilCheck (.tmp 5), 0, none, true⟩, ⟨some 7, .fieldAddr 50 (.tmp 6) 1, 0, none, true⟩, ⟨some 8, .load 3 (.tmp 7), 3, none, true⟩, ⟨some 2, .assign (.tmp 8), 3, none, true⟩])
  .ret))
noncomputable def f23 : AFn := ⟨9, [.tmp 2], b23⟩
/-- (*novation/tape.Tape).last -/
noncomputable def b24 : AC :=
  .seq (.region [⟨some 2, .assign (.const (.bool false)), 4, none, true⟩])
  (.seq (.seq (.region [⟨some 3, .move (.tmp 0), 25, none, true⟩, ⟨some 4, .nilCheck (.tmp 3), 0, none, true⟩, ⟨some 5, .fieldAddr 50 (.tmp 4) 2, 0, none, true⟩, ⟨some 6, .load 4 (.tmp 5), 4, none, true⟩, ⟨some 7, .unOp .not 4 (.tmp 6), 4, none, true⟩])
  (.cond (.tmp 7) (.seq (.region [⟨some 2, .assign (.const (.bool false)), 4, none, true⟩])
  .ret) .skip))
  (.seq (.seq (.region [⟨some 8, .move (.tmp 0), 25, none, true⟩, ⟨some 9, .nilCheck (.tmp 8), 0, none, true⟩, ⟨some 10, .fieldAddr 50 (.tmp 9) 4, 0, none, true⟩, ⟨some 11, .load 3 (.tmp 10), 3, none, true⟩, ⟨some 12, .binOp .gtr 3 (.tmp 11) (.const (.int .i64 0)) 3, 4, none, true⟩])
  (.cond (.tmp 12) (.seq (.region [⟨some 13, .move (.tmp 0), 25, none, true⟩, ⟨some 14, .nilCheck (.tmp 13), 0, none, true⟩, ⟨some 15, .fieldAddr 50 (.tmp 14) 4, 0, none, true⟩, ⟨some 16, .load 3 (.tmp 15), 3, none, true⟩, ⟨some 17, .binOp .sub 3 (.tmp 16) (.const (.int .i64 1)) 3, 3, none, true⟩, ⟨some 18, .nilCheck (.tmp 13), 0, none, true⟩, ⟨some 19, .fieldAddr 50 (.tmp 18) 4, 0, none, true⟩, ⟨none, .store 3 (.tmp 19) (.tmp 17), 0, none, true⟩])
  (.seq (.region [⟨some 2, .assign (.const (.bool false)), 4, none, true⟩])
  .ret)) .skip))
  (.seq (.region [⟨some 20, .move (.tmp 0), 25, none, true⟩, ⟨some 21, .move (.tmp 0), 25, none, true⟩, ⟨some 22, .nilCheck (.tmp 20), 0, none, true⟩, ⟨some 23, .fieldAddr 50 (.tmp 22) 2, 0, none, true⟩, ⟨none, .store 4 (.tmp 23) (.const (.bool false)), 0, none, true⟩, ⟨some 24, .nilCheck (.tmp 21), 0, none, true⟩, ⟨some 25, .fieldAddr 50 (.tmp 24) 3, 0, none, true⟩, ⟨none, .store 4 (.tmp 25) (.const (.bool true)), 0, none, true⟩])
  (.seq (.region [⟨some 2, .assign (.const (.bool true)), 4, none, true⟩])
  .ret))))
noncomputable def f24 : AFn := ⟨26, [.tmp 2], b24⟩
/-- slices.Clone[[]byte,byte] -/
noncomputable def b25 : AC :=
  .seq (.region [⟨some 2, .assign (.const (.slice none 0 0)), 24, none, true⟩])
  (.seq (.seq (.region [⟨some 3, .move (.tmp 0), 24, none, true⟩, ⟨some 4, .binOp .eql 24 (.tmp 3) (.const (.slice none 0 0)) 24, 4, none, true⟩])
  (.cond (.tmp 4) (.seq (.region [⟨some 2, .assign (.const (.slice none 0 0)), 24, none, true⟩])
  .ret) .skip))
  (.seq (.region [⟨some 5, .buildSlice 24 0 #[], 24, none, true⟩, ⟨some 6, .move (.tmp 0), 24, none, true⟩, ⟨some 7, .call (⟨.builtin .append, #[.tmp 5, .tmp 6], #[24, 24]⟩), 24, none, true⟩, ⟨some 2, .assign (.tmp 7), 24, none, true⟩])
  .ret))
noncomputable def f25 : AFn := ⟨8, [.tmp 2], b25⟩
/-- (*novation/novationref4.Tape).Append -/
noncomputable def b26 : AC :=
  .seq (.region [⟨some 4, .assign (.const (.int .i64 0)), 28, none, true⟩])
  (.seq (.seq (.region [⟨some 5, .move (.tmp 0), 38, none, true⟩, ⟨some 6, .nilCheck (.tmp 5), 0, none, true⟩, ⟨some 7, .fieldAddr 53 (.tmp 6) 5, 0, none, true⟩, ⟨some 8, .load 4 (.tmp 7), 4, none, true⟩])
  (.cond (.tmp 8) (.seq (.region [⟨some 4, .assign (.const (.int .i64 15)), 28, none, true⟩])
  .ret) .skip))
  (.seq (.seq (.draw (drawOf T.c26 3) [0, 1, 2, 3, 4, 5, 6, 7, 8, 9, 10, 11, 12] [[], [0], [], [2], [2, 3], [2, 3, 4], [], [6], [6, 7], [6, 7, 8], [6, 7, 8, 9], [2, 3, 4, 5, 6, 7, 8, 9, 10], [0, 1, 2, 3, 4, 5, 6, 7, 8, 9, 10, 11]])
  (.cond (.tmp 21) (.seq (.region [⟨some 4, .assign (.const (.int .i64 14)), 28, none, true⟩])
  .ret) .skip))
  (.seq (.seq (.region [⟨some 22, .move (.tmp 0), 38, none, true⟩, ⟨some 23, .call (⟨.value (.func 31), #[.tmp 22], #[38]⟩), 4, none, true⟩])
  (.cond (.tmp 23) (.seq (.draw (drawOf T.c26 6) [1, 0, 2, 3, 4, 5, 7, 8, 9, 10, 11, 12, 13, 14, 15, 16, 6, 17, 18, 19, 20] [[], [], [], [2], [2, 3], [2, 3, 4], [1, 2, 3, 4, 5], [], [], [8], [8, 9], [8, 9, 10], [8, 9, 10, 11], [], [13], [8, 9, 10, 11, 12, 13, 14], [7, 8, 9, 10, 11, 12, 13, 14, 15], [1, 2, 3, 4, 5, 6, 7, 8, 9, 10, 11, 12, 13, 14, 15, 16], [0, 1, 2, 3, 4, 5, 6, 7, 8, 9, 10, 11, 12, 13, 14, 15, 16, 17], [0, 1, 2, 3, 4, 5, 6, 7, 8, 9, 10, 11, 12, 13, 14, 15, 16, 17, 18], [0, 1, 2, 3, 4, 5, 6, 7, 8, 9, 10, 11, 12, 13, 14, 15, 16, 17, 18, 19]])
  (.seq (.region [⟨some 4, .assign (.const (.int .i64 15)), 28, none, true⟩])
  .ret)) .skip))
  (.seq (.region [⟨some 44, .move (.tmp 0), 38, none, true⟩, ⟨some 45, .buildSlice 24 0 #[], 24, none, true⟩, ⟨some 46, .move (.tmp 0), 38, none, true⟩, ⟨some 47, .nilCheck (.tmp 46), 0, none, true⟩, ⟨some 48, .fieldAddr 53 (.tmp 47) 0, 0, none, true⟩, ⟨some 49, .load 24 (.tmp 48), 24, none, true⟩, ⟨some 50, .call (⟨.builtin .append, #[.tmp 45, .tmp 49], #[24, 24]⟩), 24, none, true⟩, ⟨some 51, .move (.tmp 1), 24, none, true⟩, ⟨some 52, .call (⟨.builtin .append, #[.tmp 50, .tmp 51], #[24, 24]⟩), 24, none, true⟩, ⟨some 53, .nilCheck (.tmp 44), 0, none, true⟩, ⟨some 54, .fieldAddr 53 (.tmp 53) 0, 0, none, true⟩, ⟨none, .store 24 (.tmp 54) (.tmp 52), 0, none, true⟩])
  (.seq (.region [⟨some 4, .assign (.const (.int .i64 0)), 28, none, true⟩])
  .ret)))))
noncomputable def f26 : AFn := ⟨55, [.tmp 4], b26⟩
/-- (*novation/novationref4.Tape).Cut -/
noncomputable def b27 : AC :=
  .seq (.region [⟨some 4, .assign (.const (.int .i64 0)), 28, none, true⟩])
  (.seq (.seq (.region [⟨some 6, .move (.tmp 0), 38, none, true⟩, ⟨some 7, .nilCheck (.tmp 6), 0, none, true⟩, ⟨some 8, .fieldAddr 53 (.tmp 7) 5, 0, none, true⟩, ⟨some 9, .load 4 (.tmp 8), 4, none, true⟩])
  (.cond (.tmp 9) (.seq (.region [⟨some 4, .assign (.const (.int .i64 15)), 28, none, true⟩])
  .ret) .skip))
  (.seq (.seq (.region [⟨some 10, .move (.tmp 1), 3, none, true⟩, ⟨some 11, .binOp .lss 3 (.tmp 10) (.const (.int .i64 0)) 3, 4, none, true⟩, ⟨some 12, .move (.tmp 11), 4, none, true⟩, ⟨some 13, .move (.tmp 1), 3, some (some 12), false⟩, ⟨some 14, .move (.tmp 0), 38, some (some 12), false⟩, ⟨some 15, .nilCheck (.tmp 14), 0, some (some 12), false⟩, ⟨some 16, .fieldAddr 53 (.tmp 15) 0, 0, some (some 12), false⟩, ⟨some 17, .load 24 (.tmp 16), 24, some (some 12), false⟩, ⟨some 18, .call (⟨.builtin .len, #[.tmp 17], #[24]⟩), 3, some (some 12), false⟩, ⟨some 19, .binOp .gtr 3 (.tmp 13) (.tmp 18) 3, 4, some (some 12), false⟩, ⟨some 20, .pick (.tmp 12) (.const (.bool true)) (.tmp 19), 4, none, true⟩])
  (.cond (.tmp 20) (.seq (.region [⟨some 4, .assign (.const (.int .i64 1)), 28, none, true⟩])
  .ret) .skip))
  (.seq (.region [⟨some 21, .move (.tmp 0), 38, none, true⟩, ⟨some 22, .call (⟨.value (.func 31), #[.tmp 21], #[38]⟩), 4, none, true⟩, ⟨some 5, .assign (.tmp 22), 4, none, true⟩])
  (.seq (.seq (.region [⟨some 23, .move (.tmp 5), 4, none, true⟩, ⟨some 24, .unOp .not 4 (.tmp 23), 4, none, true⟩, ⟨some 25, .move (.tmp 24), 4, none, true⟩, ⟨some 26, .move (.tmp 0), 38, some (some 25), false⟩, ⟨some 27, .nilCheck (.tmp 26), 0, some (some 25), false⟩, ⟨some 28, .fieldAddr 53 (.tmp 27) 4, 0, some (some 25), false⟩, ⟨some 29, .load 3 (.tmp 28), 3, some (some 25), false⟩, ⟨some 30, .binOp .gtr 3 (.tmp 29) (.const (.int .i64 0)) 3, 4, some (some 25), false⟩, ⟨some 31, .pick (.tmp 25) (.const (.bool true)) (.tmp 30), 4, none, true⟩])
  (.cond (.tmp 31) (.region [⟨some 32, .move (.tmp 0), 38, none, true⟩, ⟨some 33, .buildSlice 24 0 #[], 24, none, true⟩, ⟨some 34, .move (.tmp 0), 38, none, true⟩, ⟨some 35, .nilCheck (.tmp 34), 0, none, true⟩, ⟨some 36, .fieldAddr 53 (.tmp 35) 0, 0, none, true⟩, ⟨some 37, .load 24 (.tmp 36), 24, none, true⟩, ⟨some 38, .move (.tmp 1), 3, none, true⟩, ⟨some 39, .slice 24 (.tmp 37) none (some (.tmp 38)) none, 24, none, true⟩, ⟨some 40, .call (⟨.builtin .append, #[.tmp 33, .tmp 39], #[24, 24]⟩), 24, none, true⟩, ⟨some 41, .nilCheck (.tmp 32), 0, none, true⟩, ⟨some 42, .fieldAddr 53 (.tmp 41) 0, 0, none, true⟩, ⟨none, .store 24 (.tmp 42) (.tmp 40), 0, none, true⟩]) .skip))
  (.seq (.seq (.region [⟨some 43, .move (.tmp 5), 4, none, true⟩])
  (.cond (.tmp 43) (.seq (.region [⟨some 4, .assign (.const (.int .i64 15)), 28, none, true⟩])
  .ret) .skip))
  (.seq (.region [⟨some 4, .assign (.const (.int .i64 0)), 28, none, true⟩])
  .ret))))))
noncomputable def f27 : AFn := ⟨44, [.tmp 4], b27⟩
/-- (*novation/novationref4.Tape).Read -/
noncomputable def b28 : AC :=
  .seq (.region [⟨some 2, .assign (.const (.slice none 0 0)), 24, none, true⟩, ⟨some 3, .assign (.const (.int .i64 0)), 28, none, true⟩])
  (.seq (.seq (.region [⟨some 4, .move (.tmp 0), 38, none, true⟩, ⟨some 5, .nilCheck (.tmp 4), 0, none, true⟩, ⟨some 6, .fieldAddr 53 (.tmp 5) 5, 0, none, true⟩, ⟨some 7, .load 4 (.tmp 6), 4, none, true⟩])
  (.cond (.tmp 7) (.seq (.region [⟨some 2, .assign (.const (.slice none 0 0)), 24, none, true⟩, ⟨some 3, .assign (.const (.int .i64 15)), 28, none, true⟩])
  .ret) .skip))
  (.seq (.region [⟨some 8, .buildSlice 24 0 #[], 24, none, true⟩, ⟨some 9, .move (.tmp 0), 38, none, true⟩, ⟨some 10, .nilCheck (.tmp 9), 0, none, true⟩, ⟨some 11, .fieldAddr 53 (.tmp 10) 0, 0, none, true⟩, ⟨some 12, .load 24 (.tmp 11), 24, none, true⟩, ⟨some 13, .call (⟨.builtin .append, #[.tmp 8, .tmp 12], #[24, 24]⟩), 24, none, true⟩, ⟨some 2, .assign (.tmp 13), 24, none, true⟩, ⟨some 3, .assign (.const (.int .i64 0)), 28, none, true⟩])
  .ret))
noncomputable def f28 : AFn := ⟨14, [.tmp 2, .tmp 3], b28⟩
/-- (*novation/novationref4.Tape).Arm -/
noncomputable def b29 : AC :=
  .seq (.region [⟨some 6, .move (.tmp 0), 38, none, true⟩, ⟨some 7, .nilCheck (.tmp 6), 0, none, true⟩, ⟨some 8, .fieldAddr 53 (.tmp 7) 5, 0, none, true⟩, ⟨some 9, .load 4 (.tmp 8), 4, none, true⟩, ⟨some 10, .unOp .not 4 (.tmp 9), 4, none, true⟩])
  (.cond (.tmp 10) (.region [⟨some 11, .move (.tmp 0), 38, none, true⟩, ⟨some 12, .move (.tmp 0), 38, none, true⟩, ⟨some 13, .move (.tmp 0), 38, none, true⟩, ⟨some 14, .move (.tmp 1), 3, none, true⟩, ⟨some 15, .binOp .geq 3 (.tmp 14) (.const (.int .i64 0)) 3, 4, none, true⟩, ⟨some 16, .move (.tmp 1), 3, none, true⟩, ⟨some 17, .call (⟨.builtin .max, #[.tmp 16, .const (.int .i64 0)], #[3, 3]⟩), 3, none, true⟩, ⟨some 18, .move (.tmp 2), 3, none, true⟩, ⟨some 19, .nilCheck (.tmp 11), 0, none, true⟩, ⟨some 20, .fieldAddr 53 (.tmp 19) 2, 0, none, true⟩, ⟨none, .store 4 (.tmp 20) (.tmp 15), 0, none, true⟩, ⟨some 21, .nilCheck (.tmp 12), 0, none, true⟩, ⟨some 22, .fieldAddr 53 (.tmp 21) 3, 0, none, true⟩, ⟨none, .store 3 (.tmp 22) (.tmp 17), 0, none, true⟩, ⟨some 23, .nilCheck (.tmp 13), 0, none, true⟩, ⟨some 24, .fieldAddr 53 (.tmp 23) 4, 0, none, true⟩, ⟨none, .store 3 (.tmp 24) (.tmp 18), 0, none, true⟩]) .skip)
noncomputable def f29 : AFn := ⟨25, [], b29⟩
/-- (*novation/novationref4.Tape).Wake -/
noncomputable def b30 : AC :=
  .region [⟨some 2, .move (.tmp 0), 38, none, true⟩, ⟨some 3, .move (.tmp 0), 38, none, true⟩, ⟨some 4, .nilCheck (.tmp 2), 0, none, true⟩, ⟨some 5, .fieldAddr 53 (.tmp 4) 5, 0, none, true⟩, ⟨none, .store 4 (.tmp 5) (.const (.bool false)), 0, none, true⟩, ⟨some 6, .nilCheck (.tmp 3), 0, none, true⟩, ⟨some 7, .fieldAddr 53 (.tmp 6) 2, 0, none, true⟩, ⟨none, .store 4 (.tmp 7) (.const (.bool false)), 0, none, true⟩]
noncomputable def f30 : AFn := ⟨8, [], b30⟩
/-- (*novation/novationref4.Tape).falls -/
noncomputable def b31 : AC :=
  .seq (.region [⟨some 2, .assign (.const (.bool false)), 4, none, true⟩])
  (.seq (.seq (.region [⟨some 3, .move (.tmp 0), 38, none, true⟩, ⟨some 4, .nilCheck (.tmp 3), 0, none, true⟩, ⟨some 5, .fieldAddr 53 (.tmp 4) 2, 0, none, true⟩, ⟨some 6, .load 4 (.tmp 5), 4, none, true⟩, ⟨some 7, .unOp .not 4 (.tmp 6), 4, none, true⟩])
  (.cond (.tmp 7) (.seq (.region [⟨some 2, .assign (.const (.bool false)), 4, none, true⟩])
  .ret) .skip))
  (.seq (.seq (.region [⟨some 8, .move (.tmp 0), 38, none, true⟩, ⟨some 9, .nilCheck (.tmp 8), 0, none, true⟩, ⟨some 10, .fieldAddr 53 (.tmp 9) 3, 0, none, true⟩, ⟨some 11, .load 3 (.tmp 10), 3, none, true⟩, ⟨some 12, .binOp .gtr 3 (.tmp 11) (.const (.int .i64 0)) 3, 4, none, true⟩])
  (.cond (.tmp 12) (.seq (.region [⟨some 13, .move (.tmp 0), 38, none, true⟩, ⟨some 14, .nilCheck (.tmp 13), 0, none, true⟩, ⟨some 15, .fieldAddr 53 (.tmp 14) 3, 0, none, true⟩, ⟨some 16, .load 3 (.tmp 15), 3, none, true⟩, ⟨some 17, .binOp .sub 3 (.tmp 16) (.const (.int .i64 1)) 3, 3, none, true⟩, ⟨some 18, .nilCheck (.tmp 13), 0, none, true⟩, ⟨some 19, .fieldAddr 53 (.tmp 18) 3, 0, none, true⟩, ⟨none, .store 3 (.tmp 19) (.tmp 17), 0, none, true⟩])
  (.seq (.region [⟨some 2, .assign (.const (.bool false)), 4, none, true⟩])
  .ret)) .skip))
  (.seq (.region [⟨some 20, .move (.tmp 0), 38, none, true⟩, ⟨some 21, .move (.tmp 0), 38, none, true⟩, ⟨some 22, .nilCheck (.tmp 20), 0, none, true⟩, ⟨some 23, .fieldAddr 53 (.tmp 22) 2, 0, none, true⟩, ⟨none, .store 4 (.tmp 23) (.const (.bool false)), 0, none, true⟩, ⟨some 24, .nilCheck (.tmp 21), 0, none, true⟩, ⟨some 25, .fieldAddr 53 (.tmp 24) 5, 0, none, true⟩, ⟨none, .store 4 (.tmp 25) (.const (.bool true)), 0, none, true⟩])
  (.seq (.region [⟨some 2, .assign (.const (.bool true)), 4, none, true⟩])
  .ret))))
noncomputable def f31 : AFn := ⟨26, [.tmp 2], b31⟩
def tys : List (Nat × TI) := [(1, t1), (2, t2), (3, t3), (4, t4), (5, t5), (9, t9), (22, t22), (24, t24), (25, t25), (28, t28), (36, t36), (38, t38), (43, t43), (50, t50), (53, t53)]
noncomputable def fns : List (Nat × AFn) := [(3, f3), (4, f4), (5, f5), (6, f6), (7, f7), (8, f8), (9, f9), (10, f10), (11, f11), (12, f12), (13, f13), (14, f14), (15, f15), (16, f16), (17, f17), (18, f18), (19, f19), (20, f20), (21, f21), (22, f22), (23, f23), (24, f24), (25, f25), (26, f26), (27, f27), (28, f28), (29, f29), (30, f30), (31, f31)]
noncomputable def ap0 : AP := { ty := fun t => tys.lookup t, fn := fun f => fns.lookup f, prim := fun _ => none }
noncomputable def ap : AP := { ap0 with prim := knownPrim 8 }
theorem ty1 : ap.ty 1 = some t1 := by kernel_rfl
theorem ty2 : ap.ty 2 = some t2 := by kernel_rfl
theorem ty3 : ap.ty 3 = some t3 := by kernel_rfl
theorem ty4 : ap.ty 4 = some t4 := by kernel_rfl
theorem ty5 : ap.ty 5 = some t5 := by kernel_rfl
theorem ty9 : ap.ty 9 = some t9 := by kernel_rfl
theorem ty22 : ap.ty 22 = some t22 := by kernel_rfl
theorem ty24 : ap.ty 24 = some t24 := by kernel_rfl
theorem ty25 : ap.ty 25 = some t25 := by kernel_rfl
theorem ty28 : ap.ty 28 = some t28 := by kernel_rfl
theorem ty36 : ap.ty 36 = some t36 := by kernel_rfl
theorem ty38 : ap.ty 38 = some t38 := by kernel_rfl
theorem ty43 : ap.ty 43 = some t43 := by kernel_rfl
theorem ty50 : ap.ty 50 = some t50 := by kernel_rfl
theorem ty53 : ap.ty 53 = some t53 := by kernel_rfl
theorem fn3 : ap.fn 3 = some f3 := by kernel_rfl
theorem fn4 : ap.fn 4 = some f4 := by kernel_rfl
theorem fn5 : ap.fn 5 = some f5 := by kernel_rfl
theorem fn6 : ap.fn 6 = some f6 := by kernel_rfl
theorem fn7 : ap.fn 7 = some f7 := by kernel_rfl
theorem fn8 : ap.fn 8 = some f8 := by kernel_rfl
theorem fn9 : ap.fn 9 = some f9 := by kernel_rfl
theorem fn10 : ap.fn 10 = some f10 := by kernel_rfl
theorem fn11 : ap.fn 11 = some f11 := by kernel_rfl
theorem fn12 : ap.fn 12 = some f12 := by kernel_rfl
theorem fn13 : ap.fn 13 = some f13 := by kernel_rfl
theorem fn14 : ap.fn 14 = some f14 := by kernel_rfl
theorem fn15 : ap.fn 15 = some f15 := by kernel_rfl
theorem fn16 : ap.fn 16 = some f16 := by kernel_rfl
theorem fn17 : ap.fn 17 = some f17 := by kernel_rfl
theorem fn18 : ap.fn 18 = some f18 := by kernel_rfl
theorem fn19 : ap.fn 19 = some f19 := by kernel_rfl
theorem fn20 : ap.fn 20 = some f20 := by kernel_rfl
theorem fn21 : ap.fn 21 = some f21 := by kernel_rfl
theorem fn22 : ap.fn 22 = some f22 := by kernel_rfl
theorem fn23 : ap.fn 23 = some f23 := by kernel_rfl
theorem fn24 : ap.fn 24 = some f24 := by kernel_rfl
theorem fn25 : ap.fn 25 = some f25 := by kernel_rfl
theorem fn26 : ap.fn 26 = some f26 := by kernel_rfl
theorem fn27 : ap.fn 27 = some f27 := by kernel_rfl
theorem fn28 : ap.fn 28 = some f28 := by kernel_rfl
theorem fn29 : ap.fn 29 = some f29 := by kernel_rfl
theorem fn30 : ap.fn 30 = some f30 := by kernel_rfl
theorem fn31 : ap.fn 31 = some f31 := by kernel_rfl
theorem types : ∀ x ∈ tys, tiOf Try.prog x.1 = some x.2 := by
  simp only [tys, List.forall_mem_cons]
  exact ⟨by kernel_rfl, by kernel_rfl, by kernel_rfl, by kernel_rfl, by kernel_rfl, by kernel_rfl, by kernel_rfl, by kernel_rfl, by kernel_rfl, by kernel_rfl, by kernel_rfl, by kernel_rfl, by kernel_rfl, by kernel_rfl, by kernel_rfl, fun _ h => by cases h⟩
theorem funcs : ∀ x ∈ fns, FnOk Try.prog x.1 x.2 := by
  simp only [fns, List.forall_mem_cons]
  exact ⟨fnOk_of Try.func3 rfl (by decide +kernel) (by kernel_rfl) (by kernel_rfl) (by kernel_rfl), fnOk_of Try.func4 rfl (by decide +kernel) (by kernel_rfl) (by kernel_rfl) (by kernel_rfl), fnOk_of Try.func5 rfl (by decide +kernel) (by kernel_rfl) (by kernel_rfl) (by kernel_rfl), fnOk_of Try.func6 rfl (by decide +kernel) (by kernel_rfl) (by kernel_rfl) (by kernel_rfl), fnOk_of Try.func7 rfl (by decide +kernel) (by kernel_rfl) (by kernel_rfl) (by kernel_rfl), fnOk_of Try.func8 rfl (by decide +kernel) (by kernel_rfl) (by kernel_rfl) (by kernel_rfl), fnOk_of Try.func9 rfl (by decide +kernel) (by kernel_rfl) (by kernel_rfl) (by kernel_rfl), fnOk_of Try.func10 rfl (by decide +kernel) (by kernel_rfl) (by kernel_rfl) (by kernel_rfl), fnOk_of Try.func11 rfl (by decide +kernel) (by kernel_rfl) (by kernel_rfl) (by kernel_rfl), fnOk_of Try.func12 rfl (by decide +kernel) (by kernel_rfl) (by kernel_rfl) (by kernel_rfl), fnOk_of Try.func13 rfl (by decide +kernel) (by kernel_rfl) (by kernel_rfl) (by kernel_rfl), fnOk_of Try.func14 rfl (by decide +kernel) (by kernel_rfl) (by kernel_rfl) (by kernel_rfl), fnOk_of Try.func15 rfl (by decide +kernel) (by kernel_rfl) (by kernel_rfl) (by kernel_rfl), fnOk_of Try.func16 rfl (by decide +kernel) (by kernel_rfl) (by kernel_rfl) (by kernel_rfl), fnOk_of Try.func17 rfl (by decide +kernel) (by kernel_rfl) (by kernel_rfl) (by kernel_rfl), fnOk_of Try.func18 rfl (by decide +kernel) (by kernel_rfl) (by kernel_rfl) (by kernel_rfl), fnOk_of Try.func19 rfl (by decide +kernel) (by kernel_rfl) (by kernel_rfl) (by kernel_rfl), fnOk_of Try.func20 rfl (by decide +kernel) (by kernel_rfl) (by kernel_rfl) (by kernel_rfl), fnOk_of Try.func21 rfl (by decide +kernel) (by kernel_rfl) (by kernel_rfl) (by kernel_rfl), fnOk_of Try.func22 rfl (by decide +kernel) (by kernel_rfl) (by kernel_rfl) (by kernel_rfl), fnOk_of Try.func23 rfl (by decide +kernel) (by kernel_rfl) (by kernel_rfl) (by kernel_rfl), fnOk_of Try.func24 rfl (by decide +kernel) (by kernel_rfl) (by kernel_rfl) (by kernel_rfl), fnOk_of Try.func25 rfl (by decide +kernel) (by kernel_rfl) (by kernel_rfl) (by kernel_rfl), fnOk_of Try.func26 rfl (by decide +kernel) (by kernel_rfl) (by kernel_rfl) (by kernel_rfl), fnOk_of Try.func27 rfl (by decide +kernel) (by kernel_rfl) (by kernel_rfl) (by kernel_rfl), fnOk_of Try.func28 rfl (by decide +kernel) (by kernel_rfl) (by kernel_rfl) (by kernel_rfl), fnOk_of Try.func29 rfl (by decide +kernel) (by kernel_rfl) (by kernel_rfl) (by kernel_rfl), fnOk_of Try.func30 rfl (by decide +kernel) (by kernel_rfl) (by kernel_rfl) (by kernel_rfl), fnOk_of Try.func31 rfl (by decide +kernel) (by kernel_rfl) (by kernel_rfl) (by kernel_rfl), fun _ h => by cases h⟩
theorem agree0 : Agree Try.prog ap0 := agree_of (by kernel_rfl) types funcs
attribute [simp] ty1 t1 ty2 t2 ty3 t3 ty4 t4 ty5 t5 ty9 t9 ty22 t22 ty24 t24 ty25 t25 ty28 t28 ty36 t36 ty38 t38 ty43 t43 ty50 t50 ty53 t53
end Go.Proofs.Ytpohdapcbcjidaa.T
