import Derived.Test.YtpinfljbccjbkaaGL102
import Derived.Test.YtpinfljbccjbkaaProg
import Derived.KernelRfl
import Derived.Laws.BitsLemmas
import Derived.Laws.Bits64b
import Derived.WalkKit
section
/-! The tables of the abstract reading. Written by wip/ab/abgen.py (an own program) out of the loaded program. -/
set_option linter.unusedVariables false
set_option maxRecDepth 100000
namespace Go.Proofs.Ytpinfljbccjbkaa.T
open Go Go.Ab
noncomputable def c3 : Code := bodyOf Try.f3
noncomputable def c4 : Code := bodyOf Try.f4
noncomputable def c5 : Code := bodyOf Try.f5
noncomputable def c6 : Code := bodyOf Try.f6
noncomputable def c7 : Code := bodyOf Try.f7
noncomputable def c8 : Code := bodyOf Try.f8
noncomputable def c9 : Code := bodyOf Try.f9
noncomputable def c10 : Code := bodyOf Try.f10
noncomputable def c11 : Code := bodyOf Try.f11
noncomputable def c12 : Code := bodyOf Try.f12
noncomputable def c13 : Code := bodyOf Try.f13
noncomputable def c14 : Code := bodyOf Try.f14
noncomputable def c15 : Code := bodyOf Try.f15
noncomputable def c16 : Code := bodyOf Try.f16
noncomputable def c17 : Code := bodyOf Try.f17
noncomputable def c18 : Code := bodyOf Try.f18
noncomputable def c19 : Code := bodyOf Try.f19
noncomputable def c20 : Code := bodyOf Try.f20
noncomputable def c21 : Code := bodyOf Try.f21
noncomputable def c22 : Code := bodyOf Try.f22
noncomputable def c23 : Code := bodyOf Try.f23
noncomputable def c24 : Code := bodyOf Try.f24
noncomputable def c25 : Code := bodyOf Try.f25
noncomputable def c26 : Code := bodyOf Try.f26
noncomputable def c27 : Code := bodyOf Try.f27
noncomputable def c28 : Code := bodyOf Try.f28
noncomputable def c29 : Code := bodyOf Try.f29
noncomputable def c30 : Code := bodyOf Try.f30
noncomputable def c31 : Code := bodyOf Try.f31
noncomputable def c32 : Code := bodyOf Try.f32
noncomputable def c33 : Code := bodyOf Try.f33
noncomputable def c34 : Code := bodyOf Try.f34
noncomputable def c35 : Code := bodyOf Try.f35
noncomputable def c36 : Code := bodyOf Try.f36
noncomputable def c37 : Code := bodyOf Try.f37
noncomputable def c38 : Code := bodyOf Try.f38
noncomputable def c39 : Code := bodyOf Try.f39
noncomputable def c40 : Code := bodyOf Try.f40
noncomputable def c41 : Code := bodyOf Try.f41
noncomputable def c42 : Code := bodyOf Try.f42
noncomputable def c43 : Code := bodyOf Try.f43
noncomputable def c45 : Code := bodyOf Try.f45
noncomputable def c46 : Code := bodyOf Try.f46
noncomputable def c47 : Code := bodyOf Try.f47
noncomputable def c48 : Code := bodyOf Try.f48
def t1 : TI := ⟨1, 8, [.nilFunc], .func⟩
def t2 : TI := ⟨1, 8, [.int .i64 0], .int .i64⟩
def t3 : TI := ⟨1, 8, [.int .i64 0], .int .i64⟩
def t4 : TI := ⟨1, 1, [.bool false], .bool⟩
def t5 : TI := ⟨1, 1, [.int .u8 0], .int .u8⟩
def t6 : TI := ⟨1, 1, [.int .u8 0], .int .u8⟩
def t8 : TI := ⟨4, 24, [.int .i64 0, .int .i64 0, .bool false, .int .u8 0], .struct [(0, 2), (1, 3), (2, 4), (3, 6)]⟩
def t22 : TI := ⟨1, 24, [.slice none 0 (some 0) 0], .slice 58⟩
def t24 : TI := ⟨1, 8, [.ptr none], .ptr 57⟩
def t26 : TI := ⟨1, 24, [.slice none 0 (some 0) 0], .slice 30⟩
def t30 : TI := ⟨6, 48, [.int .i64 0, .int .i64 0, .int .i64 0, .int .i64 0, .int .i64 0, .int .i64 0], .struct [(0, 2), (1, 3), (2, 3), (3, 3), (4, 2), (5, 2)]⟩
def t32 : TI := ⟨1, 24, [.slice none 0 (some 0) 0], .slice 3⟩
def t37 : TI := ⟨1, 8, [.nilFunc], .func⟩
def t40 : TI := ⟨1, 8, [.int .i64 0], .int .i64⟩
def t47 : TI := ⟨1, 24, [.slice none 0 (some 0) 0], .slice 50⟩
def t50 : TI := ⟨3, 24, [.int .i64 0, .int .i64 0, .int .i64 0], .struct [(0, 3), (1, 2), (2, 2)]⟩
def t52 : TI := ⟨1, 24, [.slice none 0 (some 0) 0], .slice 2⟩
def t55 : TI := ⟨1, 8, [.nilFunc], .func⟩
def t57 : TI := ⟨2, 32, [.slice none 0 (some 0) 0, .int .i64 0], .struct [(0, 22), (1, 3)]⟩
def t58 : TI := ⟨1, 8, [.int .u64 0], .int .u64⟩
/-- novation/novationlaw16.QueueDrawn -/
noncomputable def b3 : AC :=
  .seq (.region [⟨some 4, .assign (.const (.bool false)), 4, none, true⟩])
  (.seq (.seq (.region [⟨some 9, .call (⟨.value (.func 7), #[], #[]⟩), 4, none, true⟩, ⟨some 10, .unOp .not 4 (.tmp 9), 4, none, true⟩])
  (.cond (.tmp 10) (.seq (.region [⟨some 4, .assign (.const (.bool false)), 4, none, true⟩])
  .ret) .skip))
  (.seq (.region [⟨some 11, .move (.tmp 0), 22, none, true⟩, ⟨some 12, .call (⟨.value (.func 8), #[.tmp 11], #[22]⟩), 24, none, true⟩, ⟨some 5, .assign (.tmp 12), 24, none, true⟩])
  (.seq (.region [⟨some 13, .move (.tmp 5), 24, none, true⟩, ⟨some 14, .call (⟨.value (.func 9), #[.tmp 13, .const (.int .i64 32)], #[24, 3]⟩), 26, none, true⟩, ⟨some 6, .assign (.tmp 14), 26, none, true⟩])
  (.seq (.region [⟨some 15, .move (.tmp 1), 2, none, true⟩, ⟨some 16, .move (.tmp 5), 24, none, true⟩, ⟨some 17, .call (⟨.value (.func 10), #[.tmp 16, .const (.int .i64 5)], #[24, 3]⟩), 3, none, true⟩, ⟨some 18, .binOp .add 3 (.const (.int .i64 1)) (.tmp 17) 3, 3, none, true⟩, ⟨some 19, .move (.tmp 5), 24, none, true⟩, ⟨some 20, .call (⟨.value (.func 10), #[.tmp 19, .const (.int .i64 2)], #[24, 3]⟩), 3, none, true⟩, ⟨some 21, .binOp .add 3 (.const (.int .i64 1)) (.tmp 20) 3, 3, none, true⟩, ⟨some 22, .build 30 #[(0, .tmp 15), (1, .tmp 18), (3, .tmp 21), (4, .const (.int .i64 1)), (5, .const (.int .i64 1))], 30, none, true⟩, ⟨some 7, .alloc 30, 0, none, true⟩, ⟨none, .store 30 (.tmp 7) (.tmp 22), 0, none, true⟩])
  (.seq (.seq (.region [⟨some 8, .assign (.const (.int .i64 0)), 3, none, true⟩])
  (.block 0 (.loop [false, false, false, false, false, true, true, true, true, false, false, false, false, false, false, false, false, false, false, false, false, false, false, false, false, false, false, false, false, false, false, false, false, false, false, false, false, false, false, false, false, false, false, false, false, false] (.seq (.seq (.region [⟨some 23, .move (.tmp 8), 3, none, true⟩, ⟨some 24, .binOp .lss 3 (.tmp 23) (.const (.int .i64 3)) 3, 4, none, true⟩])
  (.cond (.tmp 24) .skip (.exit 0)))
  (.seq (.block 1 (.seq (.draw (drawOf T.c3 9) [0, 1, 2, 3, 4, 6, 7, 8, 9, 10, 11, 12, 13, 5, 14, 15, 16] [[], [], [], [], [3], [2, 3, 4], [], [6], [], [], [9], [9, 10], [], [12], [12, 13], [0, 1, 2, 3, 4, 5, 6, 7, 8, 9, 10, 11, 12, 13, 14], [0, 1, 2, 3, 4, 5, 6, 7, 8, 9, 10, 11, 12, 13, 14, 15]])
  (.cond (.tmp 43) (.seq (.region [⟨some 4, .assign (.const (.bool false)), 4, none, true⟩])
  .ret) .skip)))
  (.region [⟨some 25, .move (.tmp 8), 3, none, true⟩, ⟨some 26, .binOp .add 3 (.tmp 25) (.const (.int .i64 1)) 3, 3, none, true⟩, ⟨some 8, .assign (.tmp 26), 3, none, true⟩]))))))
  (.seq (.region [⟨some 44, .move (.tmp 6), 26, none, true⟩, ⟨some 45, .call (⟨.value (.func 12), #[.tmp 44], #[26]⟩), 4, none, true⟩, ⟨some 4, .assign (.tmp 45), 4, none, true⟩])
  .ret))))))
noncomputable def f3 : AFn := ⟨46, [.tmp 4], b3⟩
noncomputable def as4_0 : AC :=
  .region [⟨some 19, .alloc 30, 0, none, true⟩, ⟨none, .store 30 (.tmp 19) (.tmp 151), 0, none, true⟩]
noncomputable def bd4_0 : AC :=
  .block 5 (.seq (.seq (.region [⟨some 152, .load 3 (.tmp 18), 3, none, true⟩, ⟨some 153, .load 3 (.tmp 17), 3, none, true⟩, ⟨some 154, .binOp .eql 3 (.tmp 152) (.tmp 153) 3, 4, none, true⟩])
  (.cond (.tmp 154) (.exit 4) .skip))
  (.seq (.seq (.draw (drawOf T.c4 29) [0, 1, 2, 3, 4, 5] [[], [], [], [1, 2], [1, 2, 3], [0, 1, 2, 3, 4]])
  (.cond (.tmp 160) (.seq (.region [⟨none, .store 4 (.tmp 8) (.const (.bool false)), 0, none, true⟩])
  .ret) .skip))
  (.region [⟨some 161, .load 3 (.tmp 18), 3, none, true⟩, ⟨some 162, .binOp .add 3 (.tmp 161) (.const (.int .i64 1)) 3, 3, none, true⟩, ⟨none, .store 3 (.tmp 18) (.tmp 162), 0, none, true⟩])))
/-- novation/novationlaw16.QueueWalks -/
noncomputable def b4 : AC :=
  .seq (.region [⟨some 8, .alloc 4, 0, none, true⟩])
  (.seq (.seq (.region [⟨some 20, .call (⟨.value (.func 7), #[], #[]⟩), 4, none, true⟩, ⟨some 21, .unOp .not 4 (.tmp 20), 4, none, true⟩])
  (.cond (.tmp 21) (.seq (.region [⟨none, .store 4 (.tmp 8) (.const (.bool false)), 0, none, true⟩])
  .ret) .skip))
  (.seq (.region [⟨some 22, .move (.tmp 0), 22, none, true⟩, ⟨some 23, .call (⟨.value (.func 8), #[.tmp 22], #[22]⟩), 24, none, true⟩, ⟨some 24, .call (⟨.value (.func 9), #[.tmp 23, .const (.int .i64 32)], #[24, 3]⟩), 26, none, true⟩, ⟨some 9, .assign (.tmp 24), 26, none, true⟩])
  (.seq (.region [⟨some 25, .move (.tmp 1), 5, none, true⟩, ⟨some 26, .binOp .rem 5 (.tmp 25) (.const (.int .u8 3)) 5, 5, none, true⟩, ⟨some 27, .convert 5 3 (.tmp 26), 3, none, true⟩, ⟨some 28, .move (.tmp 2), 5, none, true⟩, ⟨some 29, .binOp .rem 5 (.tmp 28) (.const (.int .u8 2)) 5, 5, none, true⟩, ⟨some 30, .convert 5 3 (.tmp 29), 3, none, true⟩, ⟨some 31, .binOp .add 3 (.const (.int .i64 1)) (.tmp 30) 3, 3, none, true⟩, ⟨some 10, .assign (.tmp 27), 3, none, true⟩, ⟨some 11, .assign (.tmp 31), 3, none, true⟩])
  (.seq (.region [⟨some 12, .assign (.const (.int .i64 0)), 3, none, true⟩])
  (.seq (.seq (.region [⟨some 13, .assign (.const (.int .i64 0)), 3, none, true⟩])
  (.block 0 (.loop [false, false, false, true, false, false, false, false, true, true, true, true, true, true, false, false, false, false, false, true, false, false, false, false, false, false, false, false, false, false, false, false, false, false, false, false, false, false, false, false, false, false, false, false, false, false, false, false, false, false, false, false, false, false, false, false, false, false, false, false, false, false, false, false, false, false, false, false, false, false, false, false, false, false, false, false, false, false, false, false, false, false, false, false, false, false, false, false, false, false, false, false, false, false, false, false, false, false, false, false, false, false, false, false, false, false, false, false, false, false, false, false, false, false, false, false, false, false, false, false, false, false, false, false, false, false, false, false, false, false, false, false, false, false, false, false, false, false, false, false, false, false, false, false, false, false, false, false, false, false, false, true, false, false, false, false, false, false, false, false, false, false, false, false, false, false] (.seq (.seq (.region [⟨some 32, .move (.tmp 13), 3, none, true⟩, ⟨some 33, .move (.tmp 9), 26, none, true⟩, ⟨some 34, .call (⟨.builtin .len, #[.tmp 33], #[26]⟩), 3, none, true⟩, ⟨some 35, .binOp .lss 3 (.tmp 32) (.tmp 34) 3, 4, none, true⟩])
  (.cond (.tmp 35) .skip (.exit 0)))
  (.seq (.block 1 (.seq (.region [⟨some 38, .move (.tmp 9), 26, none, true⟩, ⟨some 39, .move (.tmp 13), 3, none, true⟩, ⟨some 40, .indexAddr 26 (.tmp 38) (.tmp 39), 0, none, true⟩, ⟨some 41, .fieldAddr 30 (.tmp 40) 2, 0, none, true⟩, ⟨some 42, .load 3 (.tmp 41), 3, none, true⟩, ⟨some 43, .move (.tmp 10), 3, none, true⟩, ⟨some 44, .binOp .eql 3 (.tmp 42) (.tmp 43) 3, 4, none, true⟩, ⟨some 45, .move (.tmp 44), 4, none, true⟩, ⟨some 46, .move (.tmp 9), 26, some (some 45), true⟩, ⟨some 47, .move (.tmp 13), 3, some (some 45), true⟩, ⟨some 48, .indexAddr 26 (.tmp 46) (.tmp 47), 0, some (some 45), true⟩, ⟨some 49, .fieldAddr 30 (.tmp 48) 3, 0, some (some 45), true⟩, ⟨some 50, .load 3 (.tmp 49), 3, some (some 45), true⟩, ⟨some 51, .move (.tmp 11), 3, some (some 45), true⟩, ⟨some 52, .binOp .eql 3 (.tmp 50) (.tmp 51) 3, 4, some (some 45), true⟩, ⟨some 53, .pick (.tmp 45) (.tmp 52) (.const (.bool false)), 4, none, true⟩])
  (.cond (.tmp 53) (.region [⟨some 54, .move (.tmp 12), 3, none, true⟩, ⟨some 55, .binOp .add 3 (.tmp 54) (.const (.int .i64 1)) 3, 3, none, true⟩, ⟨some 12, .assign (.tmp 55), 3, none, true⟩]) .skip)))
  (.region [⟨some 36, .move (.tmp 13), 3, none, true⟩, ⟨some 37, .binOp .add 3 (.tmp 36) (.const (.int .i64 1)) 3, 3, none, true⟩, ⟨some 13, .assign (.tmp 37), 3, none, true⟩]))))))
  (.seq (.region [⟨some 56, .move (.tmp 9), 26, none, true⟩, ⟨some 57, .move (.tmp 10), 3, none, true⟩, ⟨some 58, .move (.tmp 11), 3, none, true⟩, ⟨some 59, .call (⟨.value (.func 13), #[.tmp 56, .tmp 57, .tmp 58], #[26, 3, 3]⟩), 26, none, true⟩, ⟨some 14, .alloc 26, 0, none, true⟩, ⟨none, .store 26 (.tmp 14) (.tmp 59), 0, none, true⟩])
  (.seq (.seq (.region [⟨some 60, .load 26 (.tmp 14), 26, none, true⟩, ⟨some 61, .call (⟨.builtin .len, #[.tmp 60], #[26]⟩), 3, none, true⟩, ⟨some 62, .move (.tmp 12), 3, none, true⟩, ⟨some 63, .binOp .neq 3 (.tmp 61) (.tmp 62) 3, 4, none, true⟩])
  (.cond (.tmp 63) (.seq (.region [⟨none, .store 4 (.tmp 8) (.const (.bool false)), 0, none, true⟩])
  .ret) .skip))
  (.seq (.seq (.region [⟨some 15, .assign (.const (.int .i64 0)), 3, none, true⟩])
  (.block 2 (.loop [false, false, false, true, false, false, false, false, true, true, true, true, true, false, true, true, false, false, false, true, false, false, false, false, false, false, false, false, false, false, false, false, false, false, false, false, false, false, false, false, false, false, false, false, false, false, false, false, false, false, false, false, false, false, false, false, false, false, false, false, false, false, false, false, false, false, false, false, false, false, false, false, false, false, false, false, false, false, false, false, false, false, false, false, false, false, false, false, false, false, false, false, false, false, false, false, false, false, false, false, false, false, false, false, false, false, false, false, false, false, false, false, false, false, false, false, false, false, false, false, false, false, false, false, false, false, false, false, false, false, false, false, false, false, false, false, false, false, false, false, false, false, false, false, false, false, false, false, false, false, false, true, false, false, false, false, false, false, false, false, false, false, false, false, false, false] (.seq (.seq (.region [⟨some 64, .move (.tmp 15), 3, none, true⟩, ⟨some 65, .move (.tmp 12), 3, none, true⟩, ⟨some 66, .binOp .lss 3 (.tmp 64) (.tmp 65) 3, 4, none, true⟩])
  (.cond (.tmp 66) .skip (.exit 2)))
  (.seq (.block 3 (.seq (.seq (.region [⟨some 69, .load 26 (.tmp 14), 26, none, true⟩, ⟨some 70, .move (.tmp 15), 3, none, true⟩, ⟨some 71, .indexAddr 26 (.tmp 69) (.tmp 70), 0, none, true⟩, ⟨some 72, .fieldAddr 30 (.tmp 71) 2, 0, none, true⟩, ⟨some 73, .load 3 (.tmp 72), 3, none, true⟩, ⟨some 74, .move (.tmp 10), 3, none, true⟩, ⟨some 75, .binOp .neq 3 (.tmp 73) (.tmp 74) 3, 4, none, true⟩, ⟨some 76, .move (.tmp 75), 4, none, true⟩, ⟨some 77, .load 26 (.tmp 14), 26, some (some 76), false⟩, ⟨some 78, .move (.tmp 15), 3, some (some 76), false⟩, ⟨some 79, .indexAddr 26 (.tmp 77) (.tmp 78), 0, some (some 76), false⟩, ⟨some 80, .fieldAddr 30 (.tmp 79) 3, 0, some (some 76), false⟩, ⟨some 81, .load 3 (.tmp 80), 3, some (some 76), false⟩, ⟨some 82, .move (.tmp 11), 3, some (some 76), false⟩, ⟨some 83, .binOp .neq 3 (.tmp 81) (.tmp 82) 3, 4, some (some 76), false⟩, ⟨some 84, .pick (.tmp 76) (.const (.bool true)) (.tmp 83), 4, none, true⟩])
  (.cond (.tmp 84) (.seq (.region [⟨none, .store 4 (.tmp 8) (.const (.bool false)), 0, none, true⟩])
  .ret) .skip))
  (.seq (.seq (.region [⟨some 85, .move (.tmp 15), 3, none, true⟩, ⟨some 86, .binOp .eql 3 (.tmp 85) (.const (.int .i64 0)) 3, 4, none, true⟩])
  (.cond (.tmp 86) (.exit 3) .skip))
  (.seq (.draw (drawOf T.c4 20) [0, 1, 2, 3, 4, 5, 6, 7, 8, 9, 10, 11, 12] [[], [], [1], [0, 1, 2], [0, 1, 2, 3], [0, 1, 2, 3, 4], [], [], [6, 7], [6, 7, 8], [6, 7, 8, 9], [0, 1, 2, 3, 4, 5, 6, 7, 8, 9, 10], [0, 1, 2, 3, 4, 5, 6, 7, 8, 9, 10, 11]])
  (.seq (.seq (.region [⟨some 99, .move (.tmp 11), 3, none, true⟩, ⟨some 100, .binOp .eql 3 (.tmp 99) (.const (.int .i64 2)) 3, 4, none, true⟩])
  (.cond (.tmp 100) (.draw (drawOf T.c4 22) [0, 1, 2, 3, 4, 5, 6, 7, 8, 9, 10, 11, 12] [[], [], [1], [0, 1, 2], [0, 1, 2, 3], [0, 1, 2, 3, 4], [], [], [6, 7], [6, 7, 8], [6, 7, 8, 9], [0, 1, 2, 3, 4, 5, 6, 7, 8, 9, 10], [0, 1, 2, 3, 4, 5, 6, 7, 8, 9, 10, 11]]) .skip))
  (.seq (.draw (drawOf T.c4 23) [0, 1, 2, 3, 4, 5, 6, 7, 8, 9, 10, 11, 12, 13, 14, 15, 16, 17, 18, 19, 20, 21, 22, 23, 24, 25, 26, 27, 28, 29] [[], [0], [0, 1], [0, 1, 2], [0, 1, 2], [0, 1, 2, 4], [0, 1, 2, 3, 4, 5], [0, 1, 2, 3, 4, 5, 6], [0, 1, 2, 3, 4, 5, 6, 7], [0, 1, 2], [0, 1, 2], [0, 1, 2, 9, 10], [0, 1, 2, 9, 10, 11], [0, 1, 2, 9, 10, 11, 12], [0, 1, 2, 3, 4, 5, 6, 7, 8, 9, 10, 11, 12, 13], [0, 1, 2, 3, 4, 5, 6, 7, 8, 9, 10, 11, 12, 13, 14], [0, 1, 2, 3, 4, 5, 6, 7, 8, 9, 10, 11, 12, 13, 14, 15], [0, 1, 2, 3, 4, 5, 6, 7, 8, 9, 10, 11, 12, 13, 14, 15], [0, 1, 2, 3, 4, 5, 6, 7, 8, 9, 10, 11, 12, 13, 14, 15, 17], [0, 1, 2, 3, 4, 5, 6, 7, 8, 9, 10, 11, 12, 13, 14, 15, 16, 17, 18], [0, 1, 2, 3, 4, 5, 6, 7, 8, 9, 10, 11, 12, 13, 14, 15, 16, 17, 18, 19], [0, 1, 2, 3, 4, 5, 6, 7, 8, 9, 10, 11, 12, 13, 14, 15, 16, 17, 18, 19, 20], [0, 1, 2, 3, 4, 5, 6, 7, 8, 9, 10, 11, 12, 13, 14, 15], [0, 1, 2, 3, 4, 5, 6, 7, 8, 9, 10, 11, 12, 13, 14, 15], [0, 1, 2, 3, 4, 5, 6, 7, 8, 9, 10, 11, 12, 13, 14, 15, 22, 23], [0, 1, 2, 3, 4, 5, 6, 7, 8, 9, 10, 11, 12, 13, 14, 15, 22, 23, 24], [0, 1, 2, 3, 4, 5, 6, 7, 8, 9, 10, 11, 12, 13, 14, 15, 22, 23, 24, 25], [0, 1, 2, 3, 4, 5, 6, 7, 8, 9, 10, 11, 12, 13, 14, 15, 16, 17, 18, 19, 20, 21, 22, 23, 24, 25, 26], [0, 1, 2, 3, 4, 5, 6, 7, 8, 9, 10, 11, 12, 13, 14, 15, 16, 17, 18, 19, 20, 21, 22, 23, 24, 25, 26, 27], [0, 1, 2, 3, 4, 5, 6, 7, 8, 9, 10, 11, 12, 13, 14, 15, 16, 17, 18, 19, 20, 21, 22, 23, 24, 25, 26, 27, 28]])
  (.cond (.tmp 142) (.seq (.region [⟨none, .store 4 (.tmp 8) (.const (.bool false)), 0, none, true⟩])
  .ret) .skip)))))))
  (.region [⟨some 67, .move (.tmp 15), 3, none, true⟩, ⟨some 68, .binOp .add 3 (.tmp 67) (.const (.int .i64 1)) 3, 3, none, true⟩, ⟨some 15, .assign (.tmp 68), 3, none, true⟩]))))))
  (.seq (.region [⟨some 143, .move (.tmp 3), 5, none, true⟩, ⟨some 144, .convert 5 3 (.tmp 143), 3, none, true⟩, ⟨some 145, .move (.tmp 12), 3, none, true⟩, ⟨some 146, .call (⟨.builtin .min, #[.tmp 144, .tmp 145], #[3, 3]⟩), 3, none, true⟩, ⟨some 17, .alloc 3, 0, none, true⟩, ⟨some 18, .alloc 3, 0, none, true⟩, ⟨none, .store 3 (.tmp 17) (.tmp 146), 0, none, true⟩, ⟨none, .store 3 (.tmp 18) (.const (.int .i64 0)), 0, none, true⟩])
  (.seq (.seq (.region [⟨some 147, .move (.tmp 9), 26, none, true⟩, ⟨some 148, .move (.tmp 10), 3, none, true⟩, ⟨some 149, .move (.tmp 11), 3, none, true⟩, ⟨some 150, .call (⟨.value (.func 14), #[.tmp 147, .tmp 148, .tmp 149], #[26, 3, 3]⟩), 37, none, true⟩])
  (.block 4 (.range (.tmp 150) #[151] as4_0 bd4_0)))
  (.seq (.region [⟨some 163, .load 3 (.tmp 18), 3, none, true⟩, ⟨some 164, .load 3 (.tmp 17), 3, none, true⟩, ⟨some 165, .binOp .eql 3 (.tmp 163) (.tmp 164) 3, 4, none, true⟩, ⟨none, .store 4 (.tmp 8) (.tmp 165), 0, none, true⟩])
  .ret)))))))))))
noncomputable def f4 : AFn := ⟨166, [.cell 8 4], b4⟩
/-- novation/novationlaw16.QueueTakes -/
noncomputable def b5 : AC :=
  .seq (.region [⟨some 4, .assign (.const (.bool false)), 4, none, true⟩])
  (.seq (.seq (.region [⟨some 17, .call (⟨.value (.func 7), #[], #[]⟩), 4, none, true⟩, ⟨some 18, .unOp .not 4 (.tmp 17), 4, none, true⟩])
  (.cond (.tmp 18) (.seq (.region [⟨some 4, .assign (.const (.bool false)), 4, none, true⟩])
  .ret) .skip))
  (.seq (.seq (.region [⟨some 19, .move (.tmp 1), 32, none, true⟩, ⟨some 20, .call (⟨.builtin .len, #[.tmp 19], #[32]⟩), 3, none, true⟩, ⟨some 21, .binOp .gtr 3 (.tmp 20) (.const (.int .i64 30)) 3, 4, none, true⟩])
  (.cond (.tmp 21) (.seq (.region [⟨some 4, .assign (.const (.bool true)), 4, none, true⟩])
  .ret) .skip))
  (.seq (.region [⟨some 22, .move (.tmp 0), 22, none, true⟩, ⟨some 23, .call (⟨.value (.func 8), #[.tmp 22], #[22]⟩), 24, none, true⟩, ⟨some 5, .assign (.tmp 23), 24, none, true⟩])
  (.seq (.region [⟨some 24, .move (.tmp 5), 24, none, true⟩, ⟨some 25, .call (⟨.value (.func 9), #[.tmp 24, .const (.int .i64 32)], #[24, 3]⟩), 26, none, true⟩, ⟨some 6, .assign (.tmp 25), 26, none, true⟩])
  (.seq (.region [⟨some 26, .build 30 #[(0, .const (.int .i64 1000)), (1, .const (.int .i64 3)), (3, .const (.int .i64 2)), (4, .const (.int .i64 7)), (5, .const (.int .i64 7))], 30, none, true⟩, ⟨some 7, .alloc 30, 0, none, true⟩, ⟨none, .store 30 (.tmp 7) (.tmp 26), 0, none, true⟩])
  (.seq (.region [⟨some 28, .move (.tmp 6), 26, none, true⟩, ⟨some 29, .load 30 (.tmp 7), 30, none, true⟩, ⟨some 30, .call (⟨.value (.func 15), #[.tmp 28, .tmp 29], #[26, 30]⟩), 41, none, true⟩, ⟨some 27, .move (.tmp 30), 41, none, true⟩, ⟨some 31, .extract (.tmp 27) 0, 26, none, true⟩, ⟨some 32, .extract (.tmp 27) 1, 40, none, true⟩, ⟨some 8, .assign (.tmp 31), 26, none, true⟩, ⟨some 9, .assign (.tmp 32), 40, none, true⟩])
  (.seq (.seq (.region [⟨some 33, .move (.tmp 6), 26, none, true⟩, ⟨some 34, .call (⟨.builtin .len, #[.tmp 33], #[26]⟩), 3, none, true⟩, ⟨some 35, .binOp .eql 3 (.tmp 34) (.const (.int .i64 32)) 3, 4, none, true⟩])
  (.cond (.tmp 35) (.seq (.region [⟨some 36, .move (.tmp 9), 40, none, true⟩, ⟨some 37, .binOp .neq 40 (.tmp 36) (.const (.int .i64 5)) 40, 4, none, true⟩])
  (.cond (.tmp 37) (.seq (.region [⟨some 4, .assign (.const (.bool false)), 4, none, true⟩])
  .ret) .skip)) (.seq (.region [⟨some 39, .move (.tmp 8), 26, none, true⟩, ⟨some 40, .call (⟨.value (.func 16), #[.tmp 39, .const (.int .i64 3), .const (.int .i64 1000)], #[26, 3, 2]⟩), 41, none, true⟩, ⟨some 38, .move (.tmp 40), 41, none, true⟩, ⟨some 41, .extract (.tmp 38) 0, 26, none, true⟩, ⟨some 42, .extract (.tmp 38) 1, 40, none, true⟩, ⟨some 10, .assign (.tmp 41), 26, none, true⟩, ⟨some 11, .assign (.tmp 42), 40, none, true⟩])
  (.seq (.region [⟨some 43, .move (.tmp 9), 40, none, true⟩, ⟨some 44, .binOp .neq 40 (.tmp 43) (.const (.int .i64 0)) 40, 4, none, true⟩, ⟨some 45, .move (.tmp 44), 4, none, true⟩, ⟨some 46, .move (.tmp 11), 40, some (some 45), false⟩, ⟨some 47, .binOp .neq 40 (.tmp 46) (.const (.int .i64 0)) 40, 4, some (some 45), false⟩, ⟨some 48, .pick (.tmp 45) (.const (.bool true)) (.tmp 47), 4, none, true⟩, ⟨some 49, .move (.tmp 48), 4, none, true⟩, ⟨some 50, .move (.tmp 10), 26, some (some 49), false⟩, ⟨some 51, .move (.tmp 6), 26, some (some 49), false⟩, ⟨some 52, .call (⟨.value (.func 17), #[.tmp 50, .tmp 51], #[26, 26]⟩), 4, some (some 49), false⟩, ⟨some 53, .unOp .not 4 (.tmp 52), 4, some (some 49), false⟩, ⟨some 54, .pick (.tmp 49) (.const (.bool true)) (.tmp 53), 4, none, true⟩])
  (.cond (.tmp 54) (.seq (.region [⟨some 4, .assign (.const (.bool false)), 4, none, true⟩])
  .ret) .skip)))))
  (.seq (.region [⟨some 55, .move (.tmp 6), 26, none, true⟩, ⟨some 56, .move (.tmp 1), 32, none, true⟩, ⟨some 57, .call (⟨.value (.func 18), #[.tmp 55, .tmp 56], #[26, 32]⟩), 26, none, true⟩, ⟨some 12, .assign (.tmp 57), 26, none, true⟩])
  (.seq (.region [⟨some 13, .assign (.const (.int .i64 0)), 3, none, true⟩])
  (.seq (.seq (.region [⟨some 14, .assign (.const (.int .i64 0)), 3, none, true⟩])
  (.block 0 (.loop [false, true, false, false, false, false, true, false, false, false, false, false, true, true, true, false, false, false, false, false, false, false, false, false, false, false, false, false, false, false, false, false, false, false, false, false, false, false, false, false, false, false, false, false, false, false, false, false, false, false, false, false, false, false, false, false, false, false, false, false, false, false, false, false, false, false, false, false, false, false, false, false, false, false, false, false, false, false, false, false, false, false, false, false, false, false, false, false, false, false, false, false, false, false, false, false, false, false, false, false, false, false, false, false, false] (.seq (.seq (.region [⟨some 58, .move (.tmp 14), 3, none, true⟩, ⟨some 59, .move (.tmp 6), 26, none, true⟩, ⟨some 60, .call (⟨.builtin .len, #[.tmp 59], #[26]⟩), 3, none, true⟩, ⟨some 61, .binOp .lss 3 (.tmp 58) (.tmp 60) 3, 4, none, true⟩])
  (.cond (.tmp 61) .skip (.exit 0)))
  (.seq (.block 1 (.seq (.region [⟨some 15, .assign (.const (.bool false)), 4, none, true⟩])
  (.seq (.seq (.region [⟨some 16, .assign (.const (.int .i64 0)), 3, none, true⟩])
  (.block 2 (.loop [false, true, false, false, false, false, true, false, false, false, false, false, true, true, true, true, true, false, false, false, false, false, false, false, false, false, false, false, false, false, false, false, false, false, false, false, false, false, false, false, false, false, false, false, false, false, false, false, false, false, false, false, false, false, false, false, false, false, false, false, false, false, false, false, false, false, false, false, false, false, false, false, false, false, false, false, false, false, false, false, false, false, false, false, false, false, false, false, false, false, false, false, false, false, false, false, false, false, false, false, false, false, false, false, false] (.seq (.seq (.region [⟨some 64, .move (.tmp 16), 3, none, true⟩, ⟨some 65, .move (.tmp 1), 32, none, true⟩, ⟨some 66, .call (⟨.builtin .len, #[.tmp 65], #[32]⟩), 3, none, true⟩, ⟨some 67, .binOp .lss 3 (.tmp 64) (.tmp 66) 3, 4, none, true⟩])
  (.cond (.tmp 67) .skip (.exit 2)))
  (.seq (.block 3 (.draw (drawOf T.c5 24) [0, 1, 2, 3, 4, 5, 6, 7, 8, 9, 10, 11, 12, 13] [[], [0], [0, 1], [0, 1], [0, 1, 2, 3], [0, 1, 2, 3, 4], [0, 1], [0, 1], [0, 1, 6, 7], [0, 1, 6, 7, 8], [0, 1, 6, 7, 8, 9], [0, 1, 2, 3, 4, 5, 6, 7, 8, 9, 10], [0, 1, 2, 3, 4, 5, 6, 7, 8, 9, 10, 11], [0, 1, 2, 3, 4, 5, 6, 7, 8, 9, 10, 11, 12]]))
  (.region [⟨some 68, .move (.tmp 16), 3, none, true⟩, ⟨some 69, .binOp .add 3 (.tmp 68) (.const (.int .i64 1)) 3, 3, none, true⟩, ⟨some 16, .assign (.tmp 69), 3, none, true⟩]))))))
  (.seq (.seq (.region [⟨some 83, .move (.tmp 15), 4, none, true⟩])
  (.cond (.tmp 83) (.exit 1) .skip))
  (.seq (.seq (.draw (drawOf T.c5 26) [0, 1, 2, 3, 4, 5, 6, 7, 8, 9, 10, 11, 12, 13, 14] [[], [], [1], [0, 1, 2], [0, 1, 2, 3], [0, 1, 2, 3, 4], [0, 1, 2, 3, 4], [0, 1, 2, 3, 4, 5, 6], [0, 1, 2, 3, 4, 5, 6, 7], [0, 1, 2, 3, 4], [0, 1, 2, 3, 4], [0, 1, 2, 3, 4, 9, 10], [0, 1, 2, 3, 4, 9, 10, 11], [0, 1, 2, 3, 4, 5, 6, 7, 8, 9, 10, 11, 12], [0, 1, 2, 3, 4, 5, 6, 7, 8, 9, 10, 11, 12, 13]])
  (.cond (.tmp 98) (.seq (.region [⟨some 4, .assign (.const (.bool false)), 4, none, true⟩])
  .ret) .skip))
  (.region [⟨some 99, .move (.tmp 13), 3, none, true⟩, ⟨some 100, .binOp .add 3 (.tmp 99) (.const (.int .i64 1)) 3, 3, none, true⟩, ⟨some 13, .assign (.tmp 100), 3, none, true⟩]))))))
  (.region [⟨some 62, .move (.tmp 14), 3, none, true⟩, ⟨some 63, .binOp .add 3 (.tmp 62) (.const (.int .i64 1)) 3, 3, none, true⟩, ⟨some 14, .assign (.tmp 63), 3, none, true⟩]))))))
  (.seq (.region [⟨some 101, .move (.tmp 13), 3, none, true⟩, ⟨some 102, .move (.tmp 12), 26, none, true⟩, ⟨some 103, .call (⟨.builtin .len, #[.tmp 102], #[26]⟩), 3, none, true⟩, ⟨some 104, .binOp .eql 3 (.tmp 101) (.tmp 103) 3, 4, none, true⟩, ⟨some 4, .assign (.tmp 104), 4, none, true⟩])
  .ret)))))))))))
noncomputable def f5 : AFn := ⟨105, [.tmp 4], b5⟩
/-- novation/novationlaw16.QueueOpens -/
noncomputable def b6 : AC :=
  .seq (.region [⟨some 2, .assign (.const (.bool false)), 4, none, true⟩])
  (.seq (.seq (.region [⟨some 9, .call (⟨.value (.func 7), #[], #[]⟩), 4, none, true⟩, ⟨some 10, .unOp .not 4 (.tmp 9), 4, none, true⟩])
  (.cond (.tmp 10) (.seq (.region [⟨some 2, .assign (.const (.bool false)), 4, none, true⟩])
  .ret) .skip))
  (.seq (.region [⟨some 11, .move (.tmp 0), 22, none, true⟩, ⟨some 12, .call (⟨.value (.func 8), #[.tmp 11], #[22]⟩), 24, none, true⟩, ⟨some 13, .call (⟨.value (.func 9), #[.tmp 12, .const (.int .i64 32)], #[24, 3]⟩), 26, none, true⟩, ⟨some 3, .assign (.tmp 13), 26, none, true⟩])
  (.seq (.region [⟨some 4, .assign (.const (.int .i64 0)), 2, none, true⟩])
  (.seq (.seq (.region [⟨some 5, .assign (.const (.int .i64 0)), 3, none, true⟩])
  (.block 0 (.loop [false, false, false, true, true, true, false, false, false, false, false, false, false, false, false, false, false, false, false, false, false, false, false, false, false, false, false, false, false, false, false, false, false, false, false, false, false, false, false, false, false, false, false, false, false, false, false, false, false, false, false, false, false, false, false, false, false, false, false, false, false, false, false, false, false, false, false, false, false, false, false, false, false, false, false, false, false, false, false, false, false, false, false, false, false, false, false, false, false, false, false, false, false, false, false, false, false, false, false, false, false, false, false, false, false, false, false, false, false] (.seq (.seq (.region [⟨some 14, .move (.tmp 5), 3, none, true⟩, ⟨some 15, .move (.tmp 3), 26, none, true⟩, ⟨some 16, .call (⟨.builtin .len, #[.tmp 15], #[26]⟩), 3, none, true⟩, ⟨some 17, .binOp .lss 3 (.tmp 14) (.tmp 16) 3, 4, none, true⟩])
  (.cond (.tmp 17) .skip (.exit 0)))
  (.seq (.block 1 (.region [⟨some 20, .move (.tmp 4), 2, none, true⟩, ⟨some 21, .move (.tmp 3), 26, none, true⟩, ⟨some 22, .move (.tmp 5), 3, none, true⟩, ⟨some 23, .indexAddr 26 (.tmp 21) (.tmp 22), 0, none, true⟩, ⟨some 24, .fieldAddr 30 (.tmp 23) 4, 0, none, true⟩, ⟨some 25, .load 2 (.tmp 24), 2, none, true⟩, ⟨some 26, .binOp .add 2 (.tmp 20) (.tmp 25) 2, 2, none, true⟩, ⟨some 4, .assign (.tmp 26), 2, none, true⟩]))
  (.region [⟨some 18, .move (.tmp 5), 3, none, true⟩, ⟨some 19, .binOp .add 3 (.tmp 18) (.const (.int .i64 1)) 3, 3, none, true⟩, ⟨some 5, .assign (.tmp 19), 3, none, true⟩]))))))
  (.seq (.seq (.region [⟨some 6, .assign (.const (.int .i64 1)), 3, none, true⟩])
  (.block 2 (.loop [false, false, false, true, true, false, true, false, false, false, false, false, false, false, false, false, false, false, false, false, false, false, false, false, false, false, false, false, false, false, false, false, false, false, false, false, false, false, false, false, false, false, false, false, false, false, false, false, false, false, false, false, false, false, false, false, false, false, false, false, false, false, false, false, false, false, false, false, false, false, false, false, false, false, false, false, false, false, false, false, false, false, false, false, false, false, false, false, false, false, false, false, false, false, false, false, false, false, false, false, false, false, false, false, false, false, false, false, false] (.seq (.seq (.region [⟨some 27, .move (.tmp 6), 3, none, true⟩, ⟨some 28, .binOp .leq 3 (.tmp 27) (.const (.int .i64 5)) 3, 4, none, true⟩])
  (.cond (.tmp 28) .skip (.exit 2)))
  (.seq (.block 3 (.seq (.region [⟨some 31, .move (.tmp 3), 26, none, true⟩, ⟨some 32, .move (.tmp 6), 3, none, true⟩, ⟨some 33, .call (⟨.value (.func 19), #[.tmp 31, .tmp 32], #[26, 3]⟩), 47, none, true⟩, ⟨some 7, .assign (.tmp 33), 47, none, true⟩])
  (.seq (.region [⟨some 8, .assign (.const (.int .i64 0)), 3, none, true⟩])
  (.block 4 (.loop [false, false, false, true, true, false, true, true, true, false, false, false, false, false, false, false, false, false, false, false, false, false, false, false, false, false, false, false, false, false, false, false, false, false, false, false, false, false, false, false, false, false, false, false, false, false, false, false, false, false, false, false, false, false, false, false, false, false, false, false, false, false, false, false, false, false, false, false, false, false, false, false, false, false, false, false, false, false, false, false, false, false, false, false, false, false, false, false, false, false, false, false, false, false, false, false, false, false, false, false, false, false, false, false, false, false, false, false, false] (.seq (.seq (.region [⟨some 34, .move (.tmp 8), 3, none, true⟩, ⟨some 35, .move (.tmp 7), 47, none, true⟩, ⟨some 36, .call (⟨.builtin .len, #[.tmp 35], #[47]⟩), 3, none, true⟩, ⟨some 37, .binOp .lss 3 (.tmp 34) (.tmp 36) 3, 4, none, true⟩])
  (.cond (.tmp 37) .skip (.exit 4)))
  (.seq (.block 5 (.seq (.seq (.draw (drawOf T.c6 16) [0, 1, 2, 3, 4, 5, 6, 7, 8, 9, 10, 11, 12, 13, 14, 15, 16, 17, 18, 19, 20, 21, 22, 23, 24, 25, 26, 27, 28, 29, 30, 31, 32, 33, 34, 35, 36, 37, 38, 39, 40, 41, 42, 43, 44, 45, 46, 47] [[], [], [0, 1], [0, 1, 2], [0, 1, 2, 3], [0, 1, 2, 3, 4], [0, 1, 2, 3, 4, 5], [0, 1, 2, 3, 4, 5, 6], [0, 1, 2, 3, 4, 5, 6], [0, 1, 2, 3, 4, 5, 6, 7, 8], [0, 1, 2, 3, 4, 5, 6, 7, 8, 9], [0, 1, 2, 3, 4, 5, 6, 7, 8, 9, 10], [0, 1, 2, 3, 4, 5, 6, 7, 8, 9, 10, 11], [0, 1, 2, 3, 4, 5, 6, 7, 8, 9, 10, 11, 12], [0, 1, 2, 3, 4, 5, 6, 7, 8, 9, 10, 11, 12, 13], [0, 1, 2, 3, 4, 5, 6, 7, 8, 9, 10, 11, 12, 13, 14], [0, 1, 2, 3, 4, 5, 6, 7, 8, 9, 10, 11, 12, 13, 14], [0, 1, 2, 3, 4, 5, 6, 7, 8, 9, 10, 11, 12, 13, 14, 15, 16], [0, 1, 2, 3, 4, 5, 6, 7, 8, 9, 10, 11, 12, 13, 14, 15, 16, 17], [0, 1, 2, 3, 4, 5, 6, 7, 8, 9, 10, 11, 12, 13, 14, 15, 16, 17, 18], [0, 1, 2, 3, 4, 5, 6, 7, 8, 9, 10, 11, 12, 13, 14, 15, 16, 17, 18, 19], [0, 1, 2, 3, 4, 5, 6, 7, 8, 9, 10, 11, 12, 13, 14, 15, 16, 17, 18, 19, 20], [0, 1, 2, 3, 4, 5, 6, 7, 8, 9, 10, 11, 12, 13, 14, 15, 16, 17, 18, 19, 20, 21], [0, 1, 2, 3, 4, 5, 6, 7, 8, 9, 10, 11, 12, 13, 14, 15, 16, 17, 18, 19, 20, 21], [0, 1, 2, 3, 4, 5, 6, 7, 8, 9, 10, 11, 12, 13, 14, 15, 16, 17, 18, 19, 20, 21, 22, 23], [0, 1, 2, 3, 4, 5, 6, 7, 8, 9, 10, 11, 12, 13, 14, 15, 16, 17, 18, 19, 20, 21, 22, 23, 24], [0, 1, 2, 3, 4, 5, 6, 7, 8, 9, 10, 11, 12, 13, 14, 15, 16, 17, 18, 19, 20, 21, 22, 23, 24, 25], [0, 1, 2, 3, 4, 5, 6, 7, 8, 9, 10, 11, 12, 13, 14, 15, 16, 17, 18, 19, 20, 21, 22, 23, 24, 25, 26], [0, 1, 2, 3, 4, 5, 6, 7, 8, 9, 10, 11, 12, 13, 14, 15, 16, 17, 18, 19, 20, 21, 22, 23, 24, 25, 26, 27], [0, 1, 2, 3, 4, 5, 6, 7, 8, 9, 10, 11, 12, 13, 14, 15, 16, 17, 18, 19, 20, 21, 22, 23, 24, 25, 26, 27, 28], [0, 1, 2, 3, 4, 5, 6, 7, 8, 9, 10, 11, 12, 13, 14, 15, 16, 17, 18, 19, 20, 21, 22, 23, 24, 25, 26, 27, 28, 29], [0, 1, 2, 3, 4, 5, 6, 7, 8, 9, 10, 11, 12, 13, 14, 15, 16, 17, 18, 19, 20, 21, 22, 23, 24, 25, 26, 27, 28, 29, 30], [0, 1, 2, 3, 4, 5, 6, 7, 8, 9, 10, 11, 12, 13, 14, 15, 16, 17, 18, 19, 20, 21, 22, 23, 24, 25, 26, 27, 28, 29, 30, 31], [0, 1, 2, 3, 4, 5, 6, 7, 8, 9, 10, 11, 12, 13, 14, 15, 16, 17, 18, 19, 20, 21, 22, 23, 24, 25, 26, 27, 28, 29, 30, 31, 32], [0, 1, 2, 3, 4, 5, 6, 7, 8, 9, 10, 11, 12, 13, 14, 15, 16, 17, 18, 19, 20, 21, 22, 23, 24, 25, 26, 27, 28, 29, 30, 31, 32, 33], [0, 1, 2, 3, 4, 5, 6, 7, 8, 9, 10, 11, 12, 13, 14, 15, 16, 17, 18, 19, 20, 21, 22, 23, 24, 25, 26, 27, 28, 29, 30, 31, 32, 33], [0, 1, 2, 3, 4, 5, 6, 7, 8, 9, 10, 11, 12, 13, 14, 15, 16, 17, 18, 19, 20, 21, 22, 23, 24, 25, 26, 27, 28, 29, 30, 31, 32, 33, 34, 35], [0, 1, 2, 3, 4, 5, 6, 7, 8, 9, 10, 11, 12, 13, 14, 15, 16, 17, 18, 19, 20, 21, 22, 23, 24, 25, 26, 27, 28, 29, 30, 31, 32, 33, 34, 35, 36], [0, 1, 2, 3, 4, 5, 6, 7, 8, 9, 10, 11, 12, 13, 14, 15, 16, 17, 18, 19, 20, 21, 22, 23, 24, 25, 26, 27, 28, 29, 30, 31, 32, 33, 34, 35, 36, 37], [0, 1, 2, 3, 4, 5, 6, 7, 8, 9, 10, 11, 12, 13, 14, 15, 16, 17, 18, 19, 20, 21, 22, 23, 24, 25, 26, 27, 28, 29, 30, 31, 32, 33], [0, 1, 2, 3, 4, 5, 6, 7, 8, 9, 10, 11, 12, 13, 14, 15, 16, 17, 18, 19, 20, 21, 22, 23, 24, 25, 26, 27, 28, 29, 30, 31, 32, 33], [0, 1, 2, 3, 4, 5, 6, 7, 8, 9, 10, 11, 12, 13, 14, 15, 16, 17, 18, 19, 20, 21, 22, 23, 24, 25, 26, 27, 28, 29, 30, 31, 32, 33, 40], [0, 1, 2, 3, 4, 5, 6, 7, 8, 9, 10, 11, 12, 13, 14, 15, 16, 17, 18, 19, 20, 21, 22, 23, 24, 25, 26, 27, 28, 29, 30, 31, 32, 33, 39, 40, 41], [0, 1, 2, 3, 4, 5, 6, 7, 8, 9, 10, 11, 12, 13, 14, 15, 16, 17, 18, 19, 20, 21, 22, 23, 24, 25, 26, 27, 28, 29, 30, 31, 32, 33, 39, 40, 41, 42], [0, 1, 2, 3, 4, 5, 6, 7, 8, 9, 10, 11, 12, 13, 14, 15, 16, 17, 18, 19, 20, 21, 22, 23, 24, 25, 26, 27, 28, 29, 30, 31, 32, 33, 39, 40, 41, 42, 43], [0, 1, 2, 3, 4, 5, 6, 7, 8, 9, 10, 11, 12, 13, 14, 15, 16, 17, 18, 19, 20, 21, 22, 23, 24, 25, 26, 27, 28, 29, 30, 31, 32, 33, 34, 35, 36, 37, 38, 39, 40, 41, 42, 43, 44], [0, 1, 2, 3, 4, 5, 6, 7, 8, 9, 10, 11, 12, 13, 14, 15, 16, 17, 18, 19, 20, 21, 22, 23, 24, 25, 26, 27, 28, 29, 30, 31, 32, 33, 34, 35, 36, 37, 38, 39, 40, 41, 42, 43, 44, 45], [0, 1, 2, 3, 4, 5, 6, 7, 8, 9, 10, 11, 12, 13, 14, 15, 16, 17, 18, 19, 20, 21, 22, 23, 24, 25, 26, 27, 28, 29, 30, 31, 32, 33, 34, 35, 36, 37, 38, 39, 40, 41, 42, 43, 44, 45, 46]])
  (.cond (.tmp 87) (.seq (.region [⟨some 2, .assign (.const (.bool false)), 4, none, true⟩])
  .ret) .skip))
  (.draw (drawOf T.c6 18) [0, 1, 2, 3, 4, 5, 6, 7, 8, 9, 10, 11, 12, 13] [[], [], [], [1, 2], [1, 2, 3], [1, 2, 3, 4], [], [], [6, 7], [6, 7, 8], [6, 7, 8, 9], [1, 2, 3, 4, 5, 6, 7, 8, 9, 10], [0, 1, 2, 3, 4, 5, 6, 7, 8, 9, 10, 11], [0, 1, 2, 3, 4, 5, 6, 7, 8, 9, 10, 11, 12]])))
  (.region [⟨some 38, .move (.tmp 8), 3, none, true⟩, ⟨some 39, .binOp .add 3 (.tmp 38) (.const (.int .i64 1)) 3, 3, none, true⟩, ⟨some 8, .assign (.tmp 39), 3, none, true⟩]))))))))
  (.region [⟨some 29, .move (.tmp 6), 3, none, true⟩, ⟨some 30, .binOp .add 3 (.tmp 29) (.const (.int .i64 1)) 3, 3, none, true⟩, ⟨some 6, .assign (.tmp 30), 3, none, true⟩]))))))
  (.seq (.region [⟨some 101, .move (.tmp 4), 2, none, true⟩, ⟨some 102, .binOp .eql 2 (.tmp 101) (.const (.int .i64 0)) 2, 4, none, true⟩, ⟨some 103, .move (.tmp 102), 4, none, true⟩, ⟨some 104, .move (.tmp 3), 26, some (some 103), true⟩, ⟨some 105, .call (⟨.value (.func 19), #[.tmp 104, .const (.int .i64 9)], #[26, 3]⟩), 47, some (some 103), true⟩, ⟨some 106, .call (⟨.builtin .len, #[.tmp 105], #[47]⟩), 3, some (some 103), true⟩, ⟨some 107, .binOp .eql 3 (.tmp 106) (.const (.int .i64 0)) 3, 4, some (some 103), true⟩, ⟨some 108, .pick (.tmp 103) (.tmp 107) (.const (.bool false)), 4, none, true⟩, ⟨some 2, .assign (.tmp 108), 4, none, true⟩])
  .ret))))))
noncomputable def f6 : AFn := ⟨109, [.tmp 2], b6⟩
noncomputable def as7_0 : AC :=
  .region [⟨some 11, .alloc 30, 0, none, true⟩, ⟨none, .store 30 (.tmp 11) (.tmp 37), 0, none, true⟩]
noncomputable def bd7_0 : AC :=
  .block 1 (.region [⟨some 38, .load 52 (.tmp 9), 52, none, true⟩, ⟨some 39, .fieldAddr 30 (.tmp 11) 0, 0, none, true⟩, ⟨some 40, .load 2 (.tmp 39), 2, none, true⟩, ⟨some 41, .buildSlice 52 1 #[(0, .tmp 40)], 52, none, true⟩, ⟨some 42, .call (⟨.builtin .append, #[.tmp 38, .tmp 41], #[52, 52]⟩), 52, none, true⟩, ⟨none, .store 52 (.tmp 9) (.tmp 42), 0, none, true⟩])
/-- novation/novationlaw16.known -/
noncomputable def b7 : AC :=
  .seq (.region [⟨some 0, .assign (.const (.bool false)), 4, none, true⟩])
  (.seq (.region [⟨some 14, .build 30 #[(0, .const (.int .i64 1)), (1, .const (.int .i64 1)), (3, .const (.int .i64 1)), (4, .const (.int .i64 5)), (5, .const (.int .i64 10))], 30, none, true⟩, ⟨some 15, .build 30 #[(0, .const (.int .i64 2)), (1, .const (.int .i64 2)), (3, .const (.int .i64 1)), (4, .const (.int .i64 6)), (5, .const (.int .i64 11))], 30, none, true⟩, ⟨some 1, .alloc 30, 0, none, true⟩, ⟨some 2, .alloc 30, 0, none, true⟩, ⟨none, .store 30 (.tmp 1) (.tmp 14), 0, none, true⟩, ⟨none, .store 30 (.tmp 2) (.tmp 15), 0, none, true⟩])
  (.seq (.region [⟨some 17, .load 30 (.tmp 1), 30, none, true⟩, ⟨some 18, .call (⟨.value (.func 15), #[.const (.slice none 0 0), .tmp 17], #[26, 30]⟩), 41, none, true⟩, ⟨some 16, .move (.tmp 18), 41, none, true⟩, ⟨some 19, .extract (.tmp 16) 0, 26, none, true⟩, ⟨some 20, .extract (.tmp 16) 1, 40, none, true⟩, ⟨some 3, .assign (.tmp 19), 26, none, true⟩, ⟨some 4, .assign (.tmp 20), 40, none, true⟩])
  (.seq (.region [⟨some 22, .move (.tmp 3), 26, none, true⟩, ⟨some 23, .load 30 (.tmp 2), 30, none, true⟩, ⟨some 24, .call (⟨.value (.func 15), #[.tmp 22, .tmp 23], #[26, 30]⟩), 41, none, true⟩, ⟨some 21, .move (.tmp 24), 41, none, true⟩, ⟨some 25, .extract (.tmp 21) 0, 26, none, true⟩, ⟨some 26, .extract (.tmp 21) 1, 40, none, true⟩, ⟨some 5, .assign (.tmp 25), 26, none, true⟩, ⟨some 6, .assign (.tmp 26), 40, none, true⟩])
  (.seq (.region [⟨some 28, .move (.tmp 5), 26, none, true⟩, ⟨some 29, .call (⟨.value (.func 16), #[.tmp 28, .const (.int .i64 1), .const (.int .i64 1)], #[26, 3, 2]⟩), 41, none, true⟩, ⟨some 27, .move (.tmp 29), 41, none, true⟩, ⟨some 30, .extract (.tmp 27) 0, 26, none, true⟩, ⟨some 31, .extract (.tmp 27) 1, 40, none, true⟩, ⟨some 7, .assign (.tmp 30), 26, none, true⟩, ⟨some 8, .assign (.tmp 31), 40, none, true⟩])
  (.seq (.region [⟨some 9, .alloc 52, 0, none, true⟩])
  (.seq (.region [⟨some 32, .move (.tmp 5), 26, none, true⟩, ⟨some 33, .call (⟨.value (.func 14), #[.tmp 32, .const (.int .i64 0), .const (.int .i64 1)], #[26, 3, 3]⟩), 37, none, true⟩, ⟨some 10, .assign (.tmp 33), 37, none, true⟩])
  (.seq (.seq (.region [⟨some 34, .move (.tmp 10), 37, none, true⟩, ⟨some 35, .binOp .eql 37 (.tmp 34) (.const .nilFunc) 37, 4, none, true⟩])
  (.cond (.tmp 35) (.seq (.region [⟨some 0, .assign (.const (.bool false)), 4, none, true⟩])
  .ret) .skip))
  (.seq (.seq (.region [⟨some 36, .move (.tmp 10), 37, none, true⟩])
  (.block 0 (.range (.tmp 36) #[37] as7_0 bd7_0)))
  (.seq (.region [⟨some 44, .move (.tmp 5), 26, none, true⟩, ⟨some 45, .load 30 (.tmp 1), 30, none, true⟩, ⟨some 46, .call (⟨.value (.func 15), #[.tmp 44, .tmp 45], #[26, 30]⟩), 41, none, true⟩, ⟨some 43, .move (.tmp 46), 41, none, true⟩, ⟨some 47, .extract (.tmp 43) 0, 26, none, true⟩, ⟨some 48, .extract (.tmp 43) 1, 40, none, true⟩, ⟨some 12, .assign (.tmp 47), 26, none, true⟩, ⟨some 13, .assign (.tmp 48), 40, none, true⟩])
  (.seq (.draw (drawOf T.c7 13) [0, 1, 2, 3, 4, 5, 6, 7, 8, 9, 10, 11, 12, 13, 14, 15, 16, 17, 18, 19, 20, 21, 22, 24, 23, 25, 26, 27, 28, 29, 30, 31, 32, 34, 33, 35, 36, 37, 38, 40, 39, 41, 42, 43, 44, 45, 46, 47, 48, 49, 50, 51, 52, 53] [[], [0], [0, 1], [0, 1, 2], [0, 1, 2, 3], [0, 1, 2, 3, 4], [0, 1, 2, 3, 4, 5], [0, 1, 2, 3, 4, 5, 6], [0, 1, 2, 3, 4, 5, 6, 7], [0, 1, 2, 3, 4, 5, 6, 7, 8], [0, 1, 2, 3, 4, 5, 6, 7, 8, 9], [0, 1, 2, 3, 4, 5, 6, 7, 8, 9, 10], [0, 1, 2, 3, 4, 5, 6, 7, 8, 9, 10, 11], [0, 1, 2, 3, 4, 5, 6, 7, 8, 9, 10, 11, 12], [0, 1, 2, 3, 4, 5, 6, 7, 8, 9, 10, 11, 12, 13], [0, 1, 2, 3, 4, 5, 6, 7, 8, 9, 10, 11, 12, 13, 14], [0, 1, 2, 3, 4, 5, 6, 7, 8, 9, 10, 11, 12, 13, 14, 15], [0, 1, 2, 3, 4, 5, 6, 7, 8, 9, 10, 11, 12, 13, 14, 15, 16], [0, 1, 2, 3, 4, 5, 6, 7, 8, 9, 10, 11, 12, 13, 14, 15, 16, 17], [0, 1, 2, 3, 4, 5, 6, 7, 8, 9, 10, 11, 12, 13, 14, 15], [0, 1, 2, 3, 4, 5, 6, 7, 8, 9, 10, 11, 12, 13, 14, 15, 16, 17, 18, 19], [0, 1, 2, 3, 4, 5, 6, 7, 8, 9, 10, 11, 12, 13, 14, 15, 16, 17, 18, 19, 20], [0, 1, 2, 3, 4, 5, 6, 7, 8, 9, 10, 11, 12, 13, 14, 15, 16, 17, 18, 19, 20, 21], [0, 1, 2, 3, 4, 5, 6, 7, 8, 9, 10, 11, 12, 13, 14, 15, 16, 17, 18, 19, 20, 21, 22], [0, 1, 2, 3, 4, 5, 6, 7, 8, 9, 10, 11, 12, 13, 14, 15, 16, 17, 18, 19, 20, 21, 22], [0, 1, 2, 3, 4, 5, 6, 7, 8, 9, 10, 11, 12, 13, 14, 15, 16, 17, 18, 19, 20, 21, 22, 23, 24], [0, 1, 2, 3, 4, 5, 6, 7, 8, 9, 10, 11, 12, 13, 14, 15, 16, 17, 18, 19, 20, 21, 22, 23, 24, 25], [0, 1, 2, 3, 4, 5, 6, 7, 8, 9, 10, 11, 12, 13, 14, 15, 16, 17, 18, 19, 20, 21, 22, 23, 24, 25, 26], [0, 1, 2, 3, 4, 5, 6, 7, 8, 9, 10, 11, 12, 13, 14, 15, 16, 17, 18, 19, 20, 21, 22, 23, 24, 25, 26, 27], [0, 1, 2, 3, 4, 5, 6, 7, 8, 9, 10, 11, 12, 13, 14, 15, 16, 17, 18, 19, 20, 21, 22, 23, 24, 25, 26, 27, 28], [0, 1, 2, 3, 4, 5, 6, 7, 8, 9, 10, 11, 12, 13, 14, 15, 16, 17, 18, 19, 20, 21, 22, 23, 24, 25, 26, 27, 28, 29], [0, 1, 2, 3, 4, 5, 6, 7, 8, 9, 10, 11, 12, 13, 14, 15, 16, 17, 18, 19, 20, 21, 22, 23, 24, 25, 26, 27, 28, 29, 30], [0, 1, 2, 3, 4, 5, 6, 7, 8, 9, 10, 11, 12, 13, 14, 15, 16, 17, 18, 19, 20, 21, 22, 23, 24, 25, 26, 27, 28, 29, 30, 31], [0, 1, 2, 3, 4, 5, 6, 7, 8, 9, 10, 11, 12, 13, 14, 15, 16, 17, 18, 19, 20, 21, 22, 23, 24, 25, 26, 27, 28, 29, 30, 31, 32], [0, 1, 2, 3, 4, 5, 6, 7, 8, 9, 10, 11, 12, 13, 14, 15, 16, 17, 18, 19, 20, 21, 22, 23, 24, 25, 26, 27, 28, 29, 30, 31], [0, 1, 2, 3, 4, 5, 6, 7, 8, 9, 10, 11, 12, 13, 14, 15, 16, 17, 18, 19, 20, 21, 22, 23, 24, 25, 26, 27, 28, 29, 30, 31, 34], [0, 1, 2, 3, 4, 5, 6, 7, 8, 9, 10, 11, 12, 13, 14, 15, 16, 17, 18, 19, 20, 21, 22, 23, 24, 25, 26, 27, 28, 29, 30, 31, 32, 33, 34, 35], [0, 1, 2, 3, 4, 5, 6, 7, 8, 9, 10, 11, 12, 13, 14, 15, 16, 17, 18, 19, 20, 21, 22, 23, 24, 25, 26, 27, 28, 29, 30, 31, 32, 33, 34, 35, 36], [0, 1, 2, 3, 4, 5, 6, 7, 8, 9, 10, 11, 12, 13, 14, 15, 16, 17, 18, 19, 20, 21, 22, 23, 24, 25, 26, 27, 28, 29, 30, 31, 32, 33, 34, 35, 36, 37], [0, 1, 2, 3, 4, 5, 6, 7, 8, 9, 10, 11, 12, 13, 14, 15, 16, 17, 18, 19, 20, 21, 22, 23, 24, 25, 26, 27, 28, 29, 30, 31, 32, 33, 34, 35, 36, 37, 38], [0, 1, 2, 3, 4, 5, 6, 7, 8, 9, 10, 11, 12, 13, 14, 15, 16, 17, 18, 19, 20, 21, 22, 23, 24, 25, 26, 27, 28, 29, 30, 31, 32, 33, 34, 35, 36, 37, 38], [0, 1, 2, 3, 4, 5, 6, 7, 8, 9, 10, 11, 12, 13, 14, 15, 16, 17, 18, 19, 20, 21, 22, 23, 24, 25, 26, 27, 28, 29, 30, 31, 32, 33, 34, 35, 36, 37, 38, 39, 40], [0, 1, 2, 3, 4, 5, 6, 7, 8, 9, 10, 11, 12, 13, 14, 15, 16, 17, 18, 19, 20, 21, 22, 23, 24, 25, 26, 27, 28, 29, 30, 31, 32, 33, 34, 35, 36, 37, 38, 39, 40, 41], [0, 1, 2, 3, 4, 5, 6, 7, 8, 9, 10, 11, 12, 13, 14, 15, 16, 17, 18, 19, 20, 21, 22, 23, 24, 25, 26, 27, 28, 29, 30, 31, 32, 33, 34, 35, 36, 37, 38, 39, 40, 41, 42], [0, 1, 2, 3, 4, 5, 6, 7, 8, 9, 10, 11, 12, 13, 14, 15, 16, 17, 18, 19, 20, 21, 22, 23, 24, 25, 26, 27, 28, 29, 30, 31, 32, 33, 34, 35, 36, 37, 38, 39, 40, 41, 42, 43], [0, 1, 2, 3, 4, 5, 6, 7, 8, 9, 10, 11, 12, 13, 14, 15, 16, 17, 18, 19, 20, 21, 22, 23, 24, 25, 26, 27, 28, 29, 30, 31, 32, 33, 34, 35, 36, 37, 38, 39, 40, 41, 42, 43, 44], [0, 1, 2, 3, 4, 5, 6, 7, 8, 9, 10, 11, 12, 13, 14, 15, 16, 17, 18, 19, 20, 21, 22, 23, 24, 25, 26, 27, 28, 29, 30, 31, 32, 33, 34, 35, 36, 37, 38, 39, 40, 41, 42, 43, 44, 45], [0, 1, 2, 3, 4, 5, 6, 7, 8, 9, 10, 11, 12, 13, 14, 15, 16, 17, 18, 19, 20, 21, 22, 23, 24, 25, 26, 27, 28, 29, 30, 31, 32, 33, 34, 35, 36, 37, 38, 39, 40, 41, 42, 43, 44, 45, 46], [0, 1, 2, 3, 4, 5, 6, 7, 8, 9, 10, 11, 12, 13, 14, 15, 16, 17, 18, 19, 20, 21, 22, 23, 24, 25, 26, 27, 28, 29, 30, 31, 32, 33, 34, 35, 36, 37, 38, 39, 40, 41, 42, 43, 44, 45, 46, 47], [0, 1, 2, 3, 4, 5, 6, 7, 8, 9, 10, 11, 12, 13, 14, 15, 16, 17, 18, 19, 20, 21, 22, 23, 24, 25, 26, 27, 28, 29, 30, 31, 32, 33, 34, 35, 36, 37, 38, 39, 40, 41, 42, 43, 44, 45, 46, 47, 48], [0, 1, 2, 3, 4, 5, 6, 7, 8, 9, 10, 11, 12, 13, 14, 15, 16, 17, 18, 19, 20, 21, 22, 23, 24, 25, 26, 27, 28, 29, 30, 31, 32, 33, 34, 35, 36, 37, 38, 39, 40, 41, 42, 43, 44, 45, 46, 47, 48, 49], [0, 1, 2, 3, 4, 5, 6, 7, 8, 9, 10, 11, 12, 13, 14, 15, 16, 17, 18, 19, 20, 21, 22, 23, 24, 25, 26, 27, 28, 29, 30, 31, 32, 33, 34, 35, 36, 37, 38, 39, 40, 41, 42, 43, 44, 45, 46, 47, 48, 49, 50], [0, 1, 2, 3, 4, 5, 6, 7, 8, 9, 10, 11, 12, 13, 14, 15, 16, 17, 18, 19, 20, 21, 22, 23, 24, 25, 26, 27, 28, 29, 30, 31, 32, 33, 34, 35, 36, 37, 38, 39, 40, 41, 42, 43, 44, 45, 46, 47, 48, 49, 50, 51], [0, 1, 2, 3, 4, 5, 6, 7, 8, 9, 10, 11, 12, 13, 14, 15, 16, 17, 18, 19, 20, 21, 22, 23, 24, 25, 26, 27, 28, 29, 30, 31, 32, 33, 34, 35, 36, 37, 38, 39, 40, 41, 42, 43, 44, 45, 46, 47, 48, 49, 50, 51, 52]])
  .ret))))))))))
noncomputable def f7 : AFn := ⟨102, [.tmp 0], b7⟩
/-- novation/novationseat.Of -/
noncomputable def b8 : AC :=
  .seq (.region [⟨some 2, .assign (.const (.pointer none)), 24, none, true⟩])
  (.seq (.region [⟨some 3, .move (.tmp 0), 22, none, true⟩, ⟨some 4, .build 57 #[(0, .tmp 3)], 57, none, true⟩, ⟨some 5, .box 57 (.tmp 4), 24, none, true⟩, ⟨some 2, .assign (.tmp 5), 24, none, true⟩])
  .ret)
noncomputable def f8 : AFn := ⟨6, [.tmp 2], b8⟩
/-- novation/novationlaw16.orders -/
noncomputable def b9 : AC :=
  .seq (.region [⟨some 4, .assign (.const (.slice none 0 0)), 26, none, true⟩])
  (.seq (.region [⟨some 5, .assign (.const (.slice none 0 0)), 26, none, true⟩])
  (.seq (.region [⟨some 6, .assign (.const (.int .i64 0)), 2, none, true⟩])
  (.seq (.seq (.region [⟨some 8, .move (.tmp 0), 24, none, true⟩, ⟨some 9, .move (.tmp 1), 3, none, true⟩, ⟨some 10, .binOp .add 3 (.tmp 9) (.const (.int .i64 1)) 3, 3, none, true⟩, ⟨some 11, .call (⟨.value (.func 10), #[.tmp 8, .tmp 10], #[24, 3]⟩), 3, none, true⟩, ⟨some 7, .assign (.tmp 11), 3, none, true⟩])
  (.block 0 (.loop [true, false, false, false, false, true, true, true, false, false, false, false, false, false, false, false, false, false, false, false, false, false, false, false, false, false, false, false, false, false, false, false, false, false, false, false, false, false, false, false, false] (.seq (.seq (.region [⟨some 12, .move (.tmp 7), 3, none, true⟩, ⟨some 13, .binOp .gtr 3 (.tmp 12) (.const (.int .i64 0)) 3, 4, none, true⟩])
  (.cond (.tmp 13) .skip (.exit 0)))
  (.seq (.block 1 (.seq (.region [⟨some 16, .move (.tmp 6), 2, none, true⟩, ⟨some 17, .move (.tmp 0), 24, none, true⟩, ⟨some 18, .call (⟨.value (.func 10), #[.tmp 17, .const (.int .i64 3)], #[24, 3]⟩), 3, none, true⟩, ⟨some 19, .binOp .add 2 (.const (.int .i64 1)) (.tmp 18) 2, 2, none, true⟩, ⟨some 20, .binOp .add 2 (.tmp 16) (.tmp 19) 2, 2, none, true⟩, ⟨some 6, .assign (.tmp 20), 2, none, true⟩])
  (.region [⟨some 21, .move (.tmp 5), 26, none, true⟩, ⟨some 22, .move (.tmp 6), 2, none, true⟩, ⟨some 23, .move (.tmp 0), 24, none, true⟩, ⟨some 24, .call (⟨.value (.func 10), #[.tmp 23, .const (.int .i64 5)], #[24, 3]⟩), 3, none, true⟩, ⟨some 25, .binOp .add 3 (.const (.int .i64 1)) (.tmp 24) 3, 3, none, true⟩, ⟨some 26, .move (.tmp 0), 24, none, true⟩, ⟨some 27, .call (⟨.value (.func 10), #[.tmp 26, .const (.int .i64 3)], #[24, 3]⟩), 3, none, true⟩, ⟨some 28, .move (.tmp 0), 24, none, true⟩, ⟨some 29, .call (⟨.value (.func 10), #[.tmp 28, .const (.int .i64 2)], #[24, 3]⟩), 3, none, true⟩, ⟨some 30, .binOp .add 3 (.const (.int .i64 1)) (.tmp 29) 3, 3, none, true⟩, ⟨some 31, .move (.tmp 0), 24, none, true⟩, ⟨some 32, .call (⟨.value (.func 10), #[.tmp 31, .const (.int .i64 40)], #[24, 3]⟩), 3, none, true⟩, ⟨some 33, .binOp .add 2 (.const (.int .i64 1)) (.tmp 32) 2, 2, none, true⟩, ⟨some 34, .move (.tmp 0), 24, none, true⟩, ⟨some 35, .call (⟨.value (.func 10), #[.tmp 34, .const (.int .i64 10)], #[24, 3]⟩), 3, none, true⟩, ⟨some 36, .binOp .add 2 (.const (.int .i64 95)) (.tmp 35) 2, 2, none, true⟩, ⟨some 37, .build 30 #[(0, .tmp 22), (1, .tmp 25), (2, .tmp 27), (3, .tmp 30), (4, .tmp 33), (5, .tmp 36)], 30, none, true⟩, ⟨some 38, .buildSlice 26 1 #[(0, .tmp 37)], 26, none, true⟩, ⟨some 39, .call (⟨.builtin .append, #[.tmp 21, .tmp 38], #[26, 26]⟩), 26, none, true⟩, ⟨some 5, .assign (.tmp 39), 26, none, true⟩])))
  (.region [⟨some 14, .move (.tmp 7), 3, none, true⟩, ⟨some 15, .binOp .sub 3 (.tmp 14) (.const (.int .i64 1)) 3, 3, none, true⟩, ⟨some 7, .assign (.tmp 15), 3, none, true⟩]))))))
  (.seq (.region [⟨some 40, .move (.tmp 5), 26, none, true⟩, ⟨some 4, .assign (.tmp 40), 26, none, true⟩])
  .ret))))
noncomputable def f9 : AFn := ⟨41, [.tmp 4], b9⟩
/-- (*novation/novationseat.Deck).N -/
noncomputable def b10 : AC :=
  .seq (.region [⟨some 4, .assign (.const (.int .i64 0)), 3, none, true⟩])
  (.seq (.region [⟨some 5, .move (.tmp 0), 24, none, true⟩, ⟨some 6, .call (⟨.value (.func 23), #[.tmp 5], #[24]⟩), 58, none, true⟩, ⟨some 7, .move (.tmp 1), 3, none, true⟩, ⟨some 8, .convert 3 58 (.tmp 7), 58, none, true⟩, ⟨some 9, .binOp .rem 58 (.tmp 6) (.tmp 8) 58, 58, none, true⟩, ⟨some 10, .convert 58 3 (.tmp 9), 3, none, true⟩, ⟨some 4, .assign (.tmp 10), 3, none, true⟩])
  .ret)
noncomputable def f10 : AFn := ⟨11, [.tmp 4], b10⟩
/-- novation/novationlaw16.told -/
noncomputable def b11 : AC :=
  .seq (.region [⟨some 8, .box 30 (.tmp 1), 0, none, true⟩, ⟨some 14, .assign (.const (.bool false)), 4, none, true⟩])
  (.seq (.region [⟨some 24, .move (.tmp 0), 26, none, true⟩, ⟨some 25, .load 30 (.tmp 8), 30, none, true⟩, ⟨some 26, .call (⟨.value (.func 15), #[.tmp 24, .tmp 25], #[26, 30]⟩), 41, none, true⟩, ⟨some 23, .move (.tmp 26), 41, none, true⟩, ⟨some 27, .extract (.tmp 23) 0, 26, none, true⟩, ⟨some 28, .extract (.tmp 23) 1, 40, none, true⟩, ⟨some 15, .assign (.tmp 27), 26, none, true⟩, ⟨some 16, .assign (.tmp 28), 40, none, true⟩])
  (.seq (.region [⟨some 30, .move (.tmp 0), 26, none, true⟩, ⟨some 31, .load 30 (.tmp 8), 30, none, true⟩, ⟨some 32, .call (⟨.value (.func 24), #[.tmp 30, .tmp 31], #[26, 30]⟩), 41, none, true⟩, ⟨some 29, .move (.tmp 32), 41, none, true⟩, ⟨some 33, .extract (.tmp 29) 0, 26, none, true⟩, ⟨some 34, .extract (.tmp 29) 1, 40, none, true⟩, ⟨some 17, .assign (.tmp 33), 26, none, true⟩, ⟨some 18, .assign (.tmp 34), 40, none, true⟩])
  (.seq (.region [⟨some 36, .move (.tmp 0), 26, none, true⟩, ⟨some 37, .move (.tmp 3), 3, none, true⟩, ⟨some 38, .move (.tmp 6), 2, none, true⟩, ⟨some 39, .call (⟨.value (.func 16), #[.tmp 36, .tmp 37, .tmp 38], #[26, 3, 2]⟩), 41, none, true⟩, ⟨some 35, .move (.tmp 39), 41, none, true⟩, ⟨some 40, .extract (.tmp 35) 0, 26, none, true⟩, ⟨some 41, .extract (.tmp 35) 1, 40, none, true⟩, ⟨some 19, .assign (.tmp 40), 26, none, true⟩, ⟨some 20, .assign (.tmp 41), 40, none, true⟩])
  (.seq (.region [⟨some 43, .move (.tmp 0), 26, none, true⟩, ⟨some 44, .move (.tmp 3), 3, none, true⟩, ⟨some 45, .move (.tmp 6), 2, none, true⟩, ⟨some 46, .call (⟨.value (.func 25), #[.tmp 43, .tmp 44, .tmp 45], #[26, 3, 2]⟩), 41, none, true⟩, ⟨some 42, .move (.tmp 46), 41, none, true⟩, ⟨some 47, .extract (.tmp 42) 0, 26, none, true⟩, ⟨some 48, .extract (.tmp 42) 1, 40, none, true⟩, ⟨some 21, .assign (.tmp 47), 26, none, true⟩, ⟨some 22, .assign (.tmp 48), 40, none, true⟩])
  (.seq (.draw (drawOf T.c11 5) [0, 1, 2, 3, 4, 5, 6, 7, 8, 9, 10, 11, 12, 13, 14, 15, 16, 17, 18, 19, 20, 22, 23, 21, 24, 25, 26, 27, 28, 29, 31, 32, 30, 33, 34, 35, 36, 37, 38, 39, 41, 42, 43, 40, 44, 45, 46, 47, 48, 50, 49, 51, 52, 53, 54, 55, 57, 56, 58, 59, 60, 61] [[], [], [0, 1], [0, 1, 2], [0, 1, 2, 3], [0, 1, 2, 3], [0, 1, 2, 3, 4, 5], [0, 1, 2, 3, 4, 5, 6], [0, 1, 2, 3, 4, 5, 6, 7], [0, 1, 2, 3, 4, 5, 6, 7, 8], [0, 1, 2, 3, 4, 5, 6, 7, 8], [0, 1, 2, 3, 4, 5, 6, 7, 8, 9, 10], [0, 1, 2, 3, 4, 5, 6, 7, 8, 9, 10, 11], [0, 1, 2, 3, 4, 5, 6, 7, 8, 9, 10, 11, 12], [0, 1, 2, 3, 4, 5, 6, 7, 8, 9, 10, 11, 12, 13], [0, 1, 2, 3, 4, 5, 6, 7, 8, 9, 10, 11, 12, 13], [0, 1, 2, 3, 4, 5, 6, 7, 8, 9, 10, 11, 12, 13, 14, 15], [0, 1, 2, 3, 4, 5, 6, 7, 8, 9, 10, 11, 12, 13, 14, 15, 16], [0, 1, 2, 3, 4, 5, 6, 7, 8, 9, 10, 11, 12, 13, 14, 15, 16, 17], [0, 1, 2, 3, 4, 5, 6, 7, 8, 9, 10, 11, 12, 13, 14, 15, 16, 17, 18], [0, 1, 2, 3, 4, 5, 6, 7, 8, 9, 10, 11, 12, 13, 14, 15, 16, 17, 18], [0, 1, 2, 3, 4, 5, 6, 7, 8, 9, 10, 11, 12, 13, 14, 15, 16, 17, 18, 19, 20], [0, 1, 2, 3, 4, 5, 6, 7, 8, 9, 10, 11, 12, 13, 14, 15, 16, 17, 18], [0, 1, 2, 3, 4, 5, 6, 7, 8, 9, 10, 11, 12, 13, 14, 15, 16, 17, 18], [0, 1, 2, 3, 4, 5, 6, 7, 8, 9, 10, 11, 12, 13, 14, 15, 16, 17, 18, 19, 20, 21, 22, 23], [0, 1, 2, 3, 4, 5, 6, 7, 8, 9, 10, 11, 12, 13, 14, 15, 16, 17, 18, 19, 20, 21, 22, 23, 24], [0, 1, 2, 3, 4, 5, 6, 7, 8, 9, 10, 11, 12, 13, 14, 15, 16, 17, 18, 19, 20, 21, 22, 23, 24, 25], [0, 1, 2, 3, 4, 5, 6, 7, 8, 9, 10, 11, 12, 13, 14, 15, 16, 17, 18, 19, 20, 21, 22, 23, 24, 25, 26], [0, 1, 2, 3, 4, 5, 6, 7, 8, 9, 10, 11, 12, 13, 14, 15, 16, 17, 18, 19, 20, 21, 22, 23, 24, 25, 26, 27], [0, 1, 2, 3, 4, 5, 6, 7, 8, 9, 10, 11, 12, 13, 14, 15, 16, 17, 18, 19, 20, 21, 22, 23, 24, 25, 26, 27], [0, 1, 2, 3, 4, 5, 6, 7, 8, 9, 10, 11, 12, 13, 14, 15, 16, 17, 18, 19, 20, 21, 22, 23, 24, 25, 26, 27, 28, 29], [0, 1, 2, 3, 4, 5, 6, 7, 8, 9, 10, 11, 12, 13, 14, 15, 16, 17, 18, 19, 20, 21, 22, 23, 24, 25, 26, 27], [0, 1, 2, 3, 4, 5, 6, 7, 8, 9, 10, 11, 12, 13, 14, 15, 16, 17, 18, 19, 20, 21, 22, 23, 24, 25, 26, 27], [0, 1, 2, 3, 4, 5, 6, 7, 8, 9, 10, 11, 12, 13, 14, 15, 16, 17, 18, 19, 20, 21, 22, 23, 24, 25, 26, 27, 28, 29, 30, 31, 32], [0, 1, 2, 3, 4, 5, 6, 7, 8, 9, 10, 11, 12, 13, 14, 15, 16, 17, 18, 19, 20, 21, 22, 23, 24, 25, 26, 27, 28, 29, 30, 31, 32, 33], [0, 1, 2, 3, 4, 5, 6, 7, 8, 9, 10, 11, 12, 13, 14, 15, 16, 17, 18, 19, 20, 21, 22, 23, 24, 25, 26, 27, 28, 29, 30, 31, 32, 33, 34], [0, 1, 2, 3, 4, 5, 6, 7, 8, 9, 10, 11, 12, 13, 14, 15, 16, 17, 18, 19, 20, 21, 22, 23, 24, 25, 26, 27, 28, 29, 30, 31, 32, 33, 34, 35], [0, 1, 2, 3, 4, 5, 6, 7, 8, 9, 10, 11, 12, 13, 14, 15, 16, 17, 18, 19, 20, 21, 22, 23, 24, 25, 26, 27, 28, 29, 30, 31, 32, 33, 34, 35, 36], [0, 1, 2, 3, 4, 5, 6, 7, 8, 9, 10, 11, 12, 13, 14, 15, 16, 17, 18, 19, 20, 21, 22, 23, 24, 25, 26, 27, 28, 29, 30, 31, 32, 33, 34, 35, 36], [0, 1, 2, 3, 4, 5, 6, 7, 8, 9, 10, 11, 12, 13, 14, 15, 16, 17, 18, 19, 20, 21, 22, 23, 24, 25, 26, 27, 28, 29, 30, 31, 32, 33, 34, 35, 36], [0, 1, 2, 3, 4, 5, 6, 7, 8, 9, 10, 11, 12, 13, 14, 15, 16, 17, 18, 19, 20, 21, 22, 23, 24, 25, 26, 27, 28, 29, 30, 31, 32, 33, 34, 35, 36, 37, 38, 39], [0, 1, 2, 3, 4, 5, 6, 7, 8, 9, 10, 11, 12, 13, 14, 15, 16, 17, 18, 19, 20, 21, 22, 23, 24, 25, 26, 27, 28, 29, 30, 31, 32, 33, 34, 35, 36], [0, 1, 2, 3, 4, 5, 6, 7, 8, 9, 10, 11, 12, 13, 14, 15, 16, 17, 18, 19, 20, 21, 22, 23, 24, 25, 26, 27, 28, 29, 30, 31, 32, 33, 34, 35, 36], [0, 1, 2, 3, 4, 5, 6, 7, 8, 9, 10, 11, 12, 13, 14, 15, 16, 17, 18, 19, 20, 21, 22, 23, 24, 25, 26, 27, 28, 29, 30, 31, 32, 33, 34, 35, 36], [0, 1, 2, 3, 4, 5, 6, 7, 8, 9, 10, 11, 12, 13, 14, 15, 16, 17, 18, 19, 20, 21, 22, 23, 24, 25, 26, 27, 28, 29, 30, 31, 32, 33, 34, 35, 36, 37, 38, 39, 40, 41, 42, 43], [0, 1, 2, 3, 4, 5, 6, 7, 8, 9, 10, 11, 12, 13, 14, 15, 16, 17, 18, 19, 20, 21, 22, 23, 24, 25, 26, 27, 28, 29, 30, 31, 32, 33, 34, 35, 36, 37, 38, 39, 40, 41, 42, 43, 44], [0, 1, 2, 3, 4, 5, 6, 7, 8, 9, 10, 11, 12, 13, 14, 15, 16, 17, 18, 19, 20, 21, 22, 23, 24, 25, 26, 27, 28, 29, 30, 31, 32, 33, 34, 35, 36, 37, 38, 39, 40, 41, 42, 43, 44, 45], [0, 1, 2, 3, 4, 5, 6, 7, 8, 9, 10, 11, 12, 13, 14, 15, 16, 17, 18, 19, 20, 21, 22, 23, 24, 25, 26, 27, 28, 29, 30, 31, 32, 33, 34, 35, 36, 37, 38, 39, 40, 41, 42, 43, 44, 45, 46], [0, 1, 2, 3, 4, 5, 6, 7, 8, 9, 10, 11, 12, 13, 14, 15, 16, 17, 18, 19, 20, 21, 22, 23, 24, 25, 26, 27, 28, 29, 30, 31, 32, 33, 34, 35, 36, 37, 38, 39, 40, 41, 42, 43, 44, 45, 46, 47], [0, 1, 2, 3, 4, 5, 6, 7, 8, 9, 10, 11, 12, 13, 14, 15, 16, 17, 18, 19, 20, 21, 22, 23, 24, 25, 26, 27, 28, 29, 30, 31, 32, 33, 34, 35, 36, 37, 38, 39, 40, 41, 42, 43, 44, 45, 46, 47, 48], [0, 1, 2, 3, 4, 5, 6, 7, 8, 9, 10, 11, 12, 13, 14, 15, 16, 17, 18, 19, 20, 21, 22, 23, 24, 25, 26, 27, 28, 29, 30, 31, 32, 33, 34, 35, 36, 37, 38, 39, 40, 41, 42, 43, 44, 45, 46, 47], [0, 1, 2, 3, 4, 5, 6, 7, 8, 9, 10, 11, 12, 13, 14, 15, 16, 17, 18, 19, 20, 21, 22, 23, 24, 25, 26, 27, 28, 29, 30, 31, 32, 33, 34, 35, 36, 37, 38, 39, 40, 41, 42, 43, 44, 45, 46, 47, 48, 49, 50], [0, 1, 2, 3, 4, 5, 6, 7, 8, 9, 10, 11, 12, 13, 14, 15, 16, 17, 18, 19, 20, 21, 22, 23, 24, 25, 26, 27, 28, 29, 30, 31, 32, 33, 34, 35, 36, 37, 38, 39, 40, 41, 42, 43, 44, 45, 46, 47, 48, 49, 50, 51], [0, 1, 2, 3, 4, 5, 6, 7, 8, 9, 10, 11, 12, 13, 14, 15, 16, 17, 18, 19, 20, 21, 22, 23, 24, 25, 26, 27, 28, 29, 30, 31, 32, 33, 34, 35, 36, 37, 38, 39, 40, 41, 42, 43, 44, 45, 46, 47, 48, 49, 50, 51, 52], [0, 1, 2, 3, 4, 5, 6, 7, 8, 9, 10, 11, 12, 13, 14, 15, 16, 17, 18, 19, 20, 21, 22, 23, 24, 25, 26, 27, 28, 29, 30, 31, 32, 33, 34, 35, 36, 37, 38, 39, 40, 41, 42, 43, 44, 45, 46, 47, 48, 49, 50, 51, 52, 53], [0, 1, 2, 3, 4, 5, 6, 7, 8, 9, 10, 11, 12, 13, 14, 15, 16, 17, 18, 19, 20, 21, 22, 23, 24, 25, 26, 27, 28, 29, 30, 31, 32, 33, 34, 35, 36, 37, 38, 39, 40, 41, 42, 43, 44, 45, 46, 47, 48, 49, 50, 51, 52, 53, 54], [0, 1, 2, 3, 4, 5, 6, 7, 8, 9, 10, 11, 12, 13, 14, 15, 16, 17, 18, 19, 20, 21, 22, 23, 24, 25, 26, 27, 28, 29, 30, 31, 32, 33, 34, 35, 36, 37, 38, 39, 40, 41, 42, 43, 44, 45, 46, 47, 48, 49, 50, 51, 52, 53, 54, 55], [0, 1, 2, 3, 4, 5, 6, 7, 8, 9, 10, 11, 12, 13, 14, 15, 16, 17, 18, 19, 20, 21, 22, 23, 24, 25, 26, 27, 28, 29, 30, 31, 32, 33, 34, 35, 36, 37, 38, 39, 40, 41, 42, 43, 44, 45, 46, 47, 48, 49, 50, 51, 52, 53, 54], [0, 1, 2, 3, 4, 5, 6, 7, 8, 9, 10, 11, 12, 13, 14, 15, 16, 17, 18, 19, 20, 21, 22, 23, 24, 25, 26, 27, 28, 29, 30, 31, 32, 33, 34, 35, 36, 37, 38, 39, 40, 41, 42, 43, 44, 45, 46, 47, 48, 49, 50, 51, 52, 53, 54, 55, 56, 57], [0, 1, 2, 3, 4, 5, 6, 7, 8, 9, 10, 11, 12, 13, 14, 15, 16, 17, 18, 19, 20, 21, 22, 23, 24, 25, 26, 27, 28, 29, 30, 31, 32, 33, 34, 35, 36, 37, 38, 39, 40, 41, 42, 43, 44, 45, 46, 47, 48, 49, 50, 51, 52, 53, 54, 55, 56, 57, 58], [0, 1, 2, 3, 4, 5, 6, 7, 8, 9, 10, 11, 12, 13, 14, 15, 16, 17, 18, 19, 20, 21, 22, 23, 24, 25, 26, 27, 28, 29, 30, 31, 32, 33, 34, 35, 36, 37, 38, 39, 40, 41, 42, 43, 44, 45, 46, 47, 48, 49, 50, 51, 52, 53, 54, 55, 56, 57, 58, 59], [0, 1, 2, 3, 4, 5, 6, 7, 8, 9, 10, 11, 12, 13, 14, 15, 16, 17, 18, 19, 20, 21, 22, 23, 24, 25, 26, 27, 28, 29, 30, 31, 32, 33, 34, 35, 36, 37, 38, 39, 40, 41, 42, 43, 44, 45, 46, 47, 48, 49, 50, 51, 52, 53, 54, 55, 56, 57, 58, 59, 60]])
  .ret)))))
noncomputable def f11 : AFn := ⟨110, [.tmp 14], b11⟩
/-- novation/queue.Right -/
noncomputable def b12 : AC :=
  .seq (.region [⟨some 2, .assign (.const (.bool false)), 4, none, true⟩])
  (.seq (.seq (.region [⟨some 5, .move (.tmp 0), 26, none, true⟩, ⟨some 6, .call (⟨.builtin .len, #[.tmp 5], #[26]⟩), 3, none, true⟩, ⟨some 7, .move (.const (.int .i64 0)), 3, none, true⟩])
  (.block 0 (.loop [true, false, false, false, false, true, true, true, false, false, false, false, false, false, false, false, false, false, false, false, false, false, false, false, false, false, false, false, false, false, false, false, false, false] (.seq (.region [⟨some 8, .binOp .lss 3 (.tmp 7) (.tmp 6) 3, 0, none, true⟩])
  (.seq (.cond (.tmp 8) .skip (.exit 0))
  (.seq (.block 1 (.seq (.region [⟨some 9, .move (.tmp 7), 3, none, true⟩, ⟨some 10, .indexAddr 26 (.tmp 5) (.tmp 7), 0, none, true⟩, ⟨some 11, .load 30 (.tmp 10), 30, none, true⟩, ⟨some 4, .alloc 30, 0, none, true⟩, ⟨some 3, .assign (.tmp 9), 3, none, true⟩, ⟨none, .store 30 (.tmp 4) (.tmp 11), 0, none, true⟩])
  (.seq (.draw (drawOf T.c12 4) [0, 1, 2, 3, 4, 5, 6, 7, 8, 9, 10, 11, 12, 13, 14, 15, 16, 17] [[], [0], [0, 1], [0, 1, 2], [0, 1, 2, 3], [0, 1, 2, 3, 4], [0, 1, 2, 3, 4, 5], [0, 1, 2, 3, 4, 5, 6], [0, 1, 2, 3, 4, 5, 6], [0, 1, 2, 3, 4, 5, 6, 8], [0, 1, 2, 3, 4, 5, 6, 7, 8, 9], [0, 1, 2, 3, 4, 5, 6, 7, 8, 9, 10], [0, 1, 2, 3, 4, 5, 6, 7, 8, 9, 10, 11], [0, 1, 2, 3, 4, 5, 6], [0, 1, 2, 3, 4, 5, 6, 13], [0, 1, 2, 3, 4, 5, 6, 7, 8, 9, 10, 11, 12, 13, 14], [0, 1, 2, 3, 4, 5, 6, 7, 8, 9, 10, 11, 12, 13, 14, 15], [0, 1, 2, 3, 4, 5, 6, 7, 8, 9, 10, 11, 12, 13, 14, 15, 16]])
  (.cond (.tmp 29) (.seq (.region [⟨some 2, .assign (.const (.bool false)), 4, none, true⟩])
  .ret) .skip))))
  (.region [⟨some 30, .binOp .add 3 (.tmp 7) (.const (.int .i64 1)) 3, 3, none, true⟩, ⟨some 7, .move (.tmp 30), 3, none, true⟩])))))))
  (.seq (.region [⟨some 31, .move (.tmp 0), 26, none, true⟩, ⟨some 32, .call (⟨.builtin .len, #[.tmp 31], #[26]⟩), 3, none, true⟩, ⟨some 33, .binOp .leq 3 (.tmp 32) (.const (.int .i64 32)) 3, 4, none, true⟩, ⟨some 2, .assign (.tmp 33), 4, none, true⟩])
  .ret))
noncomputable def f12 : AFn := ⟨34, [.tmp 2], b12⟩
noncomputable def as13_0 : AC :=
  .region [⟨some 8, .alloc 30, 0, none, true⟩, ⟨none, .store 30 (.tmp 8) (.tmp 13), 0, none, true⟩]
noncomputable def bd13_0 : AC :=
  .block 1 (.region [⟨some 14, .load 26 (.tmp 7), 26, none, true⟩, ⟨some 15, .load 30 (.tmp 8), 30, none, true⟩, ⟨some 16, .buildSlice 26 1 #[(0, .tmp 15)], 26, none, true⟩, ⟨some 17, .call (⟨.builtin .append, #[.tmp 14, .tmp 16], #[26, 26]⟩), 26, none, true⟩, ⟨none, .store 26 (.tmp 7) (.tmp 17), 0, none, true⟩])
/-- novation/novationlaw16.walked -/
noncomputable def b13 : AC :=
  .seq (.region [⟨some 6, .assign (.const (.slice none 0 0)), 26, none, true⟩])
  (.seq (.region [⟨some 7, .alloc 26, 0, none, true⟩])
  (.seq (.seq (.region [⟨some 9, .move (.tmp 0), 26, none, true⟩, ⟨some 10, .move (.tmp 1), 3, none, true⟩, ⟨some 11, .move (.tmp 2), 3, none, true⟩, ⟨some 12, .call (⟨.value (.func 14), #[.tmp 9, .tmp 10, .tmp 11], #[26, 3, 3]⟩), 37, none, true⟩])
  (.block 0 (.range (.tmp 12) #[13] as13_0 bd13_0)))
  (.seq (.region [⟨some 18, .load 26 (.tmp 7), 26, none, true⟩, ⟨some 6, .assign (.tmp 18), 26, none, true⟩])
  .ret)))
noncomputable def f13 : AFn := ⟨19, [.tmp 6], b13⟩
/-- novation/queue.Walk -/
noncomputable def b14 : AC :=
  .seq (.region [⟨some 6, .assign (.const .nilFunc), 37, none, true⟩])
  (.seq (.region [⟨some 7, .alloc 26, 0, none, true⟩])
  (.seq (.seq (.region [⟨some 11, .move (.tmp 0), 26, none, true⟩, ⟨some 12, .call (⟨.value (.func 12), #[.tmp 11], #[26]⟩), 4, none, true⟩])
  (.cond (.tmp 12) (.seq (.region [⟨some 13, .move (.tmp 0), 26, none, true⟩, ⟨some 14, .call (⟨.builtin .len, #[.tmp 13], #[26]⟩), 3, none, true⟩, ⟨some 15, .move (.const (.int .i64 0)), 3, none, true⟩])
  (.block 0 (.loop [false, true, true, false, false, false, false, true, false, false, false, false, false, true, true, true, false, false, false, false, false, false, false, false, false, false, false, false, false, false, false, false, false, false, false, false, false, false, false, false, false, false, false, false, false, false, false, false, false, false, false] (.seq (.region [⟨some 16, .binOp .lss 3 (.tmp 15) (.tmp 14) 3, 0, none, true⟩])
  (.seq (.cond (.tmp 16) .skip (.exit 0))
  (.seq (.block 1 (.seq (.region [⟨some 17, .indexAddr 26 (.tmp 13) (.tmp 15), 0, none, true⟩, ⟨some 18, .load 30 (.tmp 17), 30, none, true⟩, ⟨some 9, .alloc 30, 0, none, true⟩, ⟨none, .store 30 (.tmp 9) (.tmp 18), 0, none, true⟩])
  (.seq (.seq (.region [⟨some 19, .fieldAddr 30 (.tmp 9) 2, 0, none, true⟩, ⟨some 20, .load 3 (.tmp 19), 3, none, true⟩, ⟨some 21, .move (.tmp 1), 3, none, true⟩, ⟨some 22, .binOp .neq 3 (.tmp 20) (.tmp 21) 3, 4, none, true⟩, ⟨some 23, .move (.tmp 22), 4, none, true⟩, ⟨some 24, .fieldAddr 30 (.tmp 9) 3, 0, some (some 23), false⟩, ⟨some 25, .load 3 (.tmp 24), 3, some (some 23), false⟩, ⟨some 26, .move (.tmp 2), 3, some (some 23), false⟩, ⟨some 27, .binOp .neq 3 (.tmp 25) (.tmp 26) 3, 4, some (some 23), false⟩, ⟨some 28, .pick (.tmp 23) (.const (.bool true)) (.tmp 27), 4, none, true⟩])
  (.cond (.tmp 28) (.exit 1) .skip))
  (.seq (.region [⟨some 29, .load 26 (.tmp 7), 26, none, true⟩, ⟨some 30, .call (⟨.builtin .len, #[.tmp 29], #[26]⟩), 3, none, true⟩, ⟨some 10, .assign (.tmp 30), 3, none, true⟩])
  (.seq (.block 2 (.loop [false, true, true, false, false, false, false, true, false, true, true, false, false, true, true, true, false, false, false, false, false, false, false, false, false, false, false, false, false, false, false, false, false, false, false, false, false, false, false, false, false, false, false, false, false, false, false, false, false, false, false] (.seq (.seq (.draw (drawOf T.c14 8) [0, 1, 2, 3, 4, 5, 6, 7, 8, 9, 10] [[], [0], [0, 1], [0, 1, 2], [0, 1, 2], [0, 1, 2], [0, 1, 2, 5], [0, 1, 2, 4, 5, 6], [0, 1, 2, 4, 5, 6, 7], [0, 1, 2, 3, 4, 5, 6, 7, 8], [0, 1, 2, 3, 4, 5, 6, 7, 8, 9]])
  (.cond (.tmp 41) .skip (.exit 2)))
  (.block 3 (.region [⟨some 42, .move (.tmp 10), 3, none, true⟩, ⟨some 43, .binOp .sub 3 (.tmp 42) (.const (.int .i64 1)) 3, 3, none, true⟩, ⟨some 10, .assign (.tmp 43), 3, none, true⟩])))))
  (.region [⟨some 44, .load 26 (.tmp 7), 26, none, true⟩, ⟨some 45, .move (.tmp 10), 3, none, true⟩, ⟨some 46, .load 30 (.tmp 9), 30, none, true⟩, ⟨some 47, .buildSlice 26 1 #[(0, .tmp 46)], 26, none, true⟩, ⟨some 48, .call (⟨.value (.func 32), #[.tmp 44, .tmp 45, .tmp 47], #[26, 3, 26]⟩), 26, none, true⟩, ⟨none, .store 26 (.tmp 7) (.tmp 48), 0, none, true⟩]))))))
  (.region [⟨some 49, .binOp .add 3 (.tmp 15) (.const (.int .i64 1)) 3, 3, none, true⟩, ⟨some 15, .move (.tmp 49), 3, none, true⟩]))))))) .skip))
  (.seq (.region [⟨some 50, .makeFunc (.func 33) #[] #[.tmp 7], 36, none, true⟩, ⟨some 6, .assign (.tmp 50), 37, none, true⟩])
  .ret)))
noncomputable def f14 : AFn := ⟨51, [.tmp 6], b14⟩
/-- novation/queue.Add -/
noncomputable def b15 : AC :=
  .seq (.region [⟨some 3, .box 30 (.tmp 1), 0, none, true⟩, ⟨some 4, .assign (.const (.slice none 0 0)), 26, none, true⟩, ⟨some 5, .assign (.const (.int .i64 0)), 40, none, true⟩])
  (.seq (.block 0 (.seq (.draw (drawOf T.c15 1) [0, 1, 2, 3, 4, 5, 6, 7, 8, 9, 10, 11, 12, 13, 14, 15, 16, 17, 18, 19, 20, 21, 22, 23, 24, 25] [[], [0], [0, 1], [0, 1, 2], [0, 1, 2, 3], [0, 1, 2, 3, 4], [0, 1, 2, 3, 4, 5], [0, 1, 2, 3, 4, 5, 6], [0, 1, 2, 3, 4, 5, 6, 7], [0, 1, 2, 3, 4, 5, 6, 7, 8], [0, 1, 2, 3, 4, 5, 6, 7, 8, 9], [0, 1, 2, 3, 4, 5, 6, 7, 8, 9, 10], [0, 1, 2, 3, 4, 5, 6, 7, 8, 9, 10, 11], [0, 1, 2, 3, 4, 5, 6, 7, 8, 9, 10, 11, 12], [0, 1, 2, 3, 4, 5, 6, 7, 8, 9, 10, 11, 12], [0, 1, 2, 3, 4, 5, 6, 7, 8, 9, 10, 11, 12, 14], [0, 1, 2, 3, 4, 5, 6, 7, 8, 9, 10, 11, 12, 14, 15], [0, 1, 2, 3, 4, 5, 6, 7, 8, 9, 10, 11, 12, 13, 14, 15, 16], [0, 1, 2, 3, 4, 5, 6, 7, 8, 9, 10, 11, 12, 13, 14, 15, 16, 17], [0, 1, 2, 3, 4, 5, 6, 7, 8, 9, 10, 11, 12, 13, 14, 15, 16, 17, 18], [0, 1, 2, 3, 4, 5, 6, 7, 8, 9, 10, 11, 12], [0, 1, 2, 3, 4, 5, 6, 7, 8, 9, 10, 11, 12, 20], [0, 1, 2, 3, 4, 5, 6, 7, 8, 9, 10, 11, 12, 13, 14, 15, 16, 17, 18, 19, 20, 21], [0, 1, 2, 3, 4, 5, 6, 7, 8, 9, 10, 11, 12, 13, 14, 15, 16, 17, 18, 19, 20, 21, 22], [0, 1, 2, 3, 4, 5, 6, 7, 8, 9, 10, 11, 12, 13, 14, 15, 16, 17, 18, 19, 20, 21, 22, 23], [0, 1, 2, 3, 4, 5, 6, 7, 8, 9, 10, 11, 12, 13, 14, 15, 16, 17, 18, 19, 20, 21, 22, 23, 24]])
  (.cond (.tmp 6) (.seq (.region [⟨some 4, .assign (.const (.slice none 0 0)), 26, none, true⟩, ⟨some 5, .assign (.const (.int .i64 1)), 40, none, true⟩])
  .ret) (.seq (.region [⟨some 33, .move (.tmp 0), 26, none, true⟩, ⟨some 34, .call (⟨.builtin .len, #[.tmp 33], #[26]⟩), 3, none, true⟩, ⟨some 35, .binOp .eql 3 (.tmp 34) (.const (.int .i64 32)) 3, 4, none, true⟩, ⟨some 32, .assign (.tmp 35), 4, none, true⟩])
  (.cond (.tmp 32) (.seq (.region [⟨some 4, .assign (.const (.slice none 0 0)), 26, none, true⟩, ⟨some 5, .assign (.const (.int .i64 5)), 40, none, true⟩])
  .ret) .skip)))))
  (.seq (.draw (drawOf T.c15 5) [0, 2, 1, 3, 4, 5, 6] [[], [0], [], [2], [0, 1, 2, 3], [0, 1, 2, 3, 4], [0, 1, 2, 3, 4, 5]])
  .ret))
noncomputable def f15 : AFn := ⟨41, [.tmp 4, .tmp 5], b15⟩
/-- novation/queue.Cancel -/
noncomputable def b16 : AC :=
  .seq (.region [⟨some 4, .box 3 (.tmp 1), 0, none, true⟩, ⟨some 5, .box 2 (.tmp 2), 0, none, true⟩, ⟨some 6, .assign (.const (.slice none 0 0)), 26, none, true⟩, ⟨some 7, .assign (.const (.int .i64 0)), 40, none, true⟩])
  (.seq (.seq (.region [⟨some 9, .move (.tmp 0), 26, none, true⟩, ⟨some 10, .call (⟨.value (.func 12), #[.tmp 9], #[26]⟩), 4, none, true⟩, ⟨some 11, .unOp .not 4 (.tmp 10), 4, none, true⟩])
  (.cond (.tmp 11) (.seq (.region [⟨some 6, .assign (.const (.slice none 0 0)), 26, none, true⟩, ⟨some 7, .assign (.const (.int .i64 1)), 40, none, true⟩])
  .ret) .skip))
  (.seq (.region [⟨some 12, .move (.tmp 0), 26, none, true⟩, ⟨some 13, .makeFunc (.func 36) #[] #[.tmp 5, .tmp 4], 55, none, true⟩, ⟨some 14, .call (⟨.value (.func 35), #[.tmp 12, .tmp 13], #[26, 55]⟩), 3, none, true⟩, ⟨some 8, .assign (.tmp 14), 3, none, true⟩])
  (.seq (.seq (.region [⟨some 15, .move (.tmp 8), 3, none, true⟩, ⟨some 16, .binOp .lss 3 (.tmp 15) (.const (.int .i64 0)) 3, 4, none, true⟩])
  (.cond (.tmp 16) (.seq (.region [⟨some 6, .assign (.const (.slice none 0 0)), 26, none, true⟩, ⟨some 7, .assign (.const (.int .i64 3)), 40, none, true⟩])
  .ret) .skip))
  (.seq (.region [⟨some 17, .move (.tmp 0), 26, none, true⟩, ⟨some 18, .call (⟨.value (.func 34), #[.tmp 17], #[26]⟩), 26, none, true⟩, ⟨some 19, .move (.tmp 8), 3, none, true⟩, ⟨some 20, .move (.tmp 8), 3, none, true⟩, ⟨some 21, .binOp .add 3 (.tmp 20) (.const (.int .i64 1)) 3, 3, none, true⟩, ⟨some 22, .call (⟨.value (.func 37), #[.tmp 18, .tmp 19, .tmp 21], #[26, 3, 3]⟩), 26, none, true⟩, ⟨some 6, .assign (.tmp 22), 26, none, true⟩, ⟨some 7, .assign (.const (.int .i64 0)), 40, none, true⟩])
  .ret))))
noncomputable def f16 : AFn := ⟨23, [.tmp 6, .tmp 7], b16⟩
/-- novation/novationhelp.Orders -/
noncomputable def b17 : AC :=
  .seq (.region [⟨some 4, .assign (.const (.bool false)), 4, none, true⟩])
  (.seq (.seq (.region [⟨some 6, .move (.tmp 0), 26, none, true⟩, ⟨some 7, .call (⟨.builtin .len, #[.tmp 6], #[26]⟩), 3, none, true⟩, ⟨some 8, .move (.tmp 1), 26, none, true⟩, ⟨some 9, .call (⟨.builtin .len, #[.tmp 8], #[26]⟩), 3, none, true⟩, ⟨some 10, .binOp .neq 3 (.tmp 7) (.tmp 9) 3, 4, none, true⟩])
  (.cond (.tmp 10) (.seq (.region [⟨some 4, .assign (.const (.bool false)), 4, none, true⟩])
  .ret) .skip))
  (.seq (.seq (.region [⟨some 5, .assign (.const (.int .i64 0)), 3, none, true⟩])
  (.block 0 (.loop [true, true, false, false, false, true, false, false, false, false, false, false, false, false, false, false, false, false, false, false, false, false, false, false, false, false] (.seq (.seq (.region [⟨some 11, .move (.tmp 5), 3, none, true⟩, ⟨some 12, .move (.tmp 0), 26, none, true⟩, ⟨some 13, .call (⟨.builtin .len, #[.tmp 12], #[26]⟩), 3, none, true⟩, ⟨some 14, .binOp .lss 3 (.tmp 11) (.tmp 13) 3, 4, none, true⟩])
  (.cond (.tmp 14) .skip (.exit 0)))
  (.seq (.block 1 (.seq (.draw (drawOf T.c17 6) [0, 1, 2, 3, 4, 5, 6, 7, 8] [[], [], [0, 1], [0, 1, 2], [], [], [4, 5], [4, 5, 6], [0, 1, 2, 3, 4, 5, 6, 7]])
  (.cond (.tmp 25) (.seq (.region [⟨some 4, .assign (.const (.bool false)), 4, none, true⟩])
  .ret) .skip)))
  (.region [⟨some 15, .move (.tmp 5), 3, none, true⟩, ⟨some 16, .binOp .add 3 (.tmp 15) (.const (.int .i64 1)) 3, 3, none, true⟩, ⟨some 5, .assign (.tmp 16), 3, none, true⟩]))))))
  (.seq (.region [⟨some 4, .assign (.const (.bool true)), 4, none, true⟩])
  .ret)))
noncomputable def f17 : AFn := ⟨26, [.tmp 4], b17⟩
/-- novation/queue.Drop -/
noncomputable def b18 : AC :=
  .seq (.region [⟨some 3, .box 32 (.tmp 1), 0, none, true⟩, ⟨some 4, .assign (.const (.slice none 0 0)), 26, none, true⟩])
  (.seq (.seq (.region [⟨some 5, .move (.tmp 0), 26, none, true⟩, ⟨some 6, .call (⟨.value (.func 12), #[.tmp 5], #[26]⟩), 4, none, true⟩, ⟨some 7, .unOp .not 4 (.tmp 6), 4, none, true⟩])
  (.cond (.tmp 7) (.seq (.region [⟨some 4, .assign (.const (.slice none 0 0)), 26, none, true⟩])
  .ret) .skip))
  (.seq (.region [⟨some 8, .move (.tmp 0), 26, none, true⟩, ⟨some 9, .call (⟨.value (.func 34), #[.tmp 8], #[26]⟩), 26, none, true⟩, ⟨some 10, .makeFunc (.func 39) #[] #[.tmp 3], 55, none, true⟩, ⟨some 11, .call (⟨.value (.func 38), #[.tmp 9, .tmp 10], #[26, 55]⟩), 26, none, true⟩, ⟨some 4, .assign (.tmp 11), 26, none, true⟩])
  .ret))
noncomputable def f18 : AFn := ⟨12, [.tmp 4], b18⟩
/-- novation/queue.Opens -/
noncomputable def b19 : AC :=
  .seq (.region [⟨some 4, .assign (.const (.slice none 0 0)), 47, none, true⟩])
  (.seq (.seq (.region [⟨some 10, .move (.tmp 0), 26, none, true⟩, ⟨some 11, .call (⟨.value (.func 12), #[.tmp 10], #[26]⟩), 4, none, true⟩, ⟨some 12, .unOp .not 4 (.tmp 11), 4, none, true⟩])
  (.cond (.tmp 12) (.seq (.region [⟨some 4, .assign (.const (.slice none 0 0)), 47, none, true⟩])
  .ret) .skip))
  (.seq (.region [⟨some 5, .assign (.const (.slice none 0 0)), 47, none, true⟩])
  (.seq (.seq (.region [⟨some 13, .move (.const (.int .i64 0)), 3, none, true⟩])
  (.block 0 (.loop [true, true, false, false, false, true, false, false, false, false, false, false, false, true, false, false, false, false, false, false, false, false, false, false, false, false, false, false, false, false, false, false, false, false, false, false, false, false, false, false, false, false, false, false, false, false, false, false, false, false, false, false, false, false, false, false, false, false, false, false, false, false, false, false] (.seq (.region [⟨some 14, .binOp .lss 3 (.tmp 13) (.const (.int .i64 6)) 3, 4, none, true⟩])
  (.seq (.cond (.tmp 14) .skip (.exit 0))
  (.seq (.block 1 (.seq (.region [⟨some 15, .move (.tmp 13), 3, none, true⟩, ⟨some 6, .assign (.tmp 15), 3, none, true⟩])
  (.seq (.region [⟨some 16, .move (.tmp 6), 3, none, true⟩, ⟨some 17, .build 50 #[(0, .tmp 16)], 50, none, true⟩, ⟨some 7, .alloc 50, 0, none, true⟩, ⟨none, .store 50 (.tmp 7) (.tmp 17), 0, none, true⟩])
  (.seq (.seq (.region [⟨some 18, .move (.tmp 0), 26, none, true⟩, ⟨some 19, .call (⟨.builtin .len, #[.tmp 18], #[26]⟩), 3, none, true⟩, ⟨some 20, .move (.const (.int .i64 0)), 3, none, true⟩])
  (.block 2 (.loop [true, true, false, false, false, true, true, true, false, false, false, false, false, true, false, false, false, false, true, true, true, false, false, false, false, false, false, false, false, false, false, false, false, false, false, false, false, false, false, false, false, false, false, false, false, false, false, false, false, false, false, false, false, false, false, false, false, false, false, false, false, false, false, false] (.seq (.region [⟨some 21, .binOp .lss 3 (.tmp 20) (.tmp 19) 3, 0, none, true⟩])
  (.seq (.cond (.tmp 21) .skip (.exit 2))
  (.seq (.block 3 (.seq (.region [⟨some 22, .indexAddr 26 (.tmp 18) (.tmp 20), 0, none, true⟩, ⟨some 23, .load 30 (.tmp 22), 30, none, true⟩, ⟨some 9, .alloc 30, 0, none, true⟩, ⟨none, .store 30 (.tmp 9) (.tmp 23), 0, none, true⟩])
  (.block 4 (.seq (.region [⟨some 31, .fieldAddr 30 (.tmp 9) 1, 0, none, true⟩, ⟨some 32, .load 3 (.tmp 31), 3, none, true⟩, ⟨some 33, .move (.tmp 1), 3, none, true⟩, ⟨some 34, .binOp .neq 3 (.tmp 32) (.tmp 33) 3, 4, none, true⟩, ⟨some 35, .move (.tmp 34), 4, none, true⟩, ⟨some 36, .fieldAddr 30 (.tmp 9) 2, 0, some (some 35), false⟩, ⟨some 37, .load 3 (.tmp 36), 3, some (some 35), false⟩, ⟨some 38, .move (.tmp 6), 3, some (some 35), false⟩, ⟨some 39, .binOp .neq 3 (.tmp 37) (.tmp 38) 3, 4, some (some 35), false⟩, ⟨some 40, .pick (.tmp 35) (.const (.bool true)) (.tmp 39), 4, none, true⟩, ⟨some 30, .assign (.tmp 40), 4, none, true⟩])
  (.cond (.tmp 30) .skip (.seq (.region [⟨some 42, .fieldAddr 30 (.tmp 9) 3, 0, none, true⟩, ⟨some 43, .load 3 (.tmp 42), 3, none, true⟩, ⟨some 44, .binOp .eql 3 (.tmp 43) (.const (.int .i64 1)) 3, 4, none, true⟩, ⟨some 41, .assign (.tmp 44), 4, none, true⟩])
  (.cond (.tmp 41) (.region [⟨some 45, .fieldAddr 50 (.tmp 7) 1, 0, none, true⟩, ⟨some 46, .load 2 (.tmp 45), 2, none, true⟩, ⟨some 47, .fieldAddr 30 (.tmp 9) 4, 0, none, true⟩, ⟨some 48, .load 2 (.tmp 47), 2, none, true⟩, ⟨some 49, .binOp .add 2 (.tmp 46) (.tmp 48) 2, 2, none, true⟩, ⟨some 50, .fieldAddr 50 (.tmp 7) 1, 0, none, true⟩, ⟨none, .store 2 (.tmp 50) (.tmp 49), 0, none, true⟩]) (.region [⟨some 24, .fieldAddr 50 (.tmp 7) 2, 0, none, true⟩, ⟨some 25, .load 2 (.tmp 24), 2, none, true⟩, ⟨some 26, .fieldAddr 30 (.tmp 9) 4, 0, none, true⟩, ⟨some 27, .load 2 (.tmp 26), 2, none, true⟩, ⟨some 28, .binOp .add 2 (.tmp 25) (.tmp 27) 2, 2, none, true⟩, ⟨some 29, .fieldAddr 50 (.tmp 7) 2, 0, none, true⟩, ⟨none, .store 2 (.tmp 29) (.tmp 28), 0, none, true⟩]))))))))
  (.region [⟨some 51, .binOp .add 3 (.tmp 20) (.const (.int .i64 1)) 3, 3, none, true⟩, ⟨some 20, .move (.tmp 51), 3, none, true⟩])))))))
  (.seq (.region [⟨some 52, .fieldAddr 50 (.tmp 7) 1, 0, none, true⟩, ⟨some 53, .load 2 (.tmp 52), 2, none, true⟩, ⟨some 54, .fieldAddr 50 (.tmp 7) 2, 0, none, true⟩, ⟨some 55, .load 2 (.tmp 54), 2, none, true⟩, ⟨some 56, .binOp .add 2 (.tmp 53) (.tmp 55) 2, 2, none, true⟩, ⟨some 57, .binOp .gtr 2 (.tmp 56) (.const (.int .i64 0)) 2, 4, none, true⟩])
  (.cond (.tmp 57) (.region [⟨some 58, .move (.tmp 5), 47, none, true⟩, ⟨some 59, .load 50 (.tmp 7), 50, none, true⟩, ⟨some 60, .buildSlice 47 1 #[(0, .tmp 59)], 47, none, true⟩, ⟨some 61, .call (⟨.builtin .append, #[.tmp 58, .tmp 60], #[47, 47]⟩), 47, none, true⟩, ⟨some 5, .assign (.tmp 61), 47, none, true⟩]) .skip))))))
  (.region [⟨some 62, .binOp .add 3 (.tmp 13) (.const (.int .i64 1)) 3, 3, none, true⟩, ⟨some 13, .move (.tmp 62), 3, none, true⟩])))))))
  (.seq (.region [⟨some 63, .move (.tmp 5), 47, none, true⟩, ⟨some 4, .assign (.tmp 63), 47, none, true⟩])
  .ret))))
noncomputable def f19 : AFn := ⟨64, [.tmp 4], b19⟩
/-- novation/novationhelp.Ints -/
noncomputable def b20 : AC :=
  .seq (.region [⟨some 4, .assign (.const (.bool false)), 4, none, true⟩])
  (.seq (.seq (.region [⟨some 6, .move (.tmp 0), 52, none, true⟩, ⟨some 7, .call (⟨.builtin .len, #[.tmp 6], #[52]⟩), 3, none, true⟩, ⟨some 8, .move (.tmp 1), 52, none, true⟩, ⟨some 9, .call (⟨.builtin .len, #[.tmp 8], #[52]⟩), 3, none, true⟩, ⟨some 10, .binOp .neq 3 (.tmp 7) (.tmp 9) 3, 4, none, true⟩])
  (.cond (.tmp 10) (.seq (.region [⟨some 4, .assign (.const (.bool false)), 4, none, true⟩])
  .ret) .skip))
  (.seq (.seq (.region [⟨some 5, .assign (.const (.int .i64 0)), 3, none, true⟩])
  (.block 0 (.loop [true, true, false, false, false, true, false, false, false, false, false, false, false, false, false, false, false, false, false, false, false, false, false, false, false, false] (.seq (.seq (.region [⟨some 11, .move (.tmp 5), 3, none, true⟩, ⟨some 12, .move (.tmp 0), 52, none, true⟩, ⟨some 13, .call (⟨.builtin .len, #[.tmp 12], #[52]⟩), 3, none, true⟩, ⟨some 14, .binOp .lss 3 (.tmp 11) (.tmp 13) 3, 4, none, true⟩])
  (.cond (.tmp 14) .skip (.exit 0)))
  (.seq (.block 1 (.seq (.draw (drawOf T.c20 6) [0, 1, 2, 3, 4, 5, 6, 7, 8] [[], [], [0, 1], [0, 1, 2], [], [], [4, 5], [4, 5, 6], [0, 1, 2, 3, 4, 5, 6, 7]])
  (.cond (.tmp 25) (.seq (.region [⟨some 4, .assign (.const (.bool false)), 4, none, true⟩])
  .ret) .skip)))
  (.region [⟨some 15, .move (.tmp 5), 3, none, true⟩, ⟨some 16, .binOp .add 3 (.tmp 15) (.const (.int .i64 1)) 3, 3, none, true⟩, ⟨some 5, .assign (.tmp 16), 3, none, true⟩]))))))
  (.seq (.region [⟨some 4, .assign (.const (.bool true)), 4, none, true⟩])
  .ret)))
noncomputable def f20 : AFn := ⟨26, [.tmp 4], b20⟩
/-- novation/novationhelp.Opens -/
noncomputable def b21 : AC :=
  .seq (.region [⟨some 4, .assign (.const (.bool false)), 4, none, true⟩])
  (.seq (.seq (.region [⟨some 6, .move (.tmp 0), 47, none, true⟩, ⟨some 7, .call (⟨.builtin .len, #[.tmp 6], #[47]⟩), 3, none, true⟩, ⟨some 8, .move (.tmp 1), 47, none, true⟩, ⟨some 9, .call (⟨.builtin .len, #[.tmp 8], #[47]⟩), 3, none, true⟩, ⟨some 10, .binOp .neq 3 (.tmp 7) (.tmp 9) 3, 4, none, true⟩])
  (.cond (.tmp 10) (.seq (.region [⟨some 4, .assign (.const (.bool false)), 4, none, true⟩])
  .ret) .skip))
  (.seq (.seq (.region [⟨some 5, .assign (.const (.int .i64 0)), 3, none, true⟩])
  (.block 0 (.loop [true, true, false, false, false, true, false, false, false, false, false, false, false, false, false, false, false, false, false, false, false, false, false, false, false, false] (.seq (.seq (.region [⟨some 11, .move (.tmp 5), 3, none, true⟩, ⟨some 12, .move (.tmp 0), 47, none, true⟩, ⟨some 13, .call (⟨.builtin .len, #[.tmp 12], #[47]⟩), 3, none, true⟩, ⟨some 14, .binOp .lss 3 (.tmp 11) (.tmp 13) 3, 4, none, true⟩])
  (.cond (.tmp 14) .skip (.exit 0)))
  (.seq (.block 1 (.seq (.draw (drawOf T.c21 6) [0, 1, 2, 3, 4, 5, 6, 7, 8] [[], [], [0, 1], [0, 1, 2], [], [], [4, 5], [4, 5, 6], [0, 1, 2, 3, 4, 5, 6, 7]])
  (.cond (.tmp 25) (.seq (.region [⟨some 4, .assign (.const (.bool false)), 4, none, true⟩])
  .ret) .skip)))
  (.region [⟨some 15, .move (.tmp 5), 3, none, true⟩, ⟨some 16, .binOp .add 3 (.tmp 15) (.const (.int .i64 1)) 3, 3, none, true⟩, ⟨some 5, .assign (.tmp 16), 3, none, true⟩]))))))
  (.seq (.region [⟨some 4, .assign (.const (.bool true)), 4, none, true⟩])
  .ret)))
noncomputable def f21 : AFn := ⟨26, [.tmp 4], b21⟩
/-- novation/queue.Order -/
noncomputable def b22 : AC :=
  .seq (.region [⟨some 1, .box 30 (.tmp 0), 0, none, true⟩, ⟨some 2, .assign (.const (.bool false)), 4, none, true⟩])
  (.seq (.region [⟨some 3, .fieldAddr 30 (.tmp 1) 0, 0, none, true⟩, ⟨some 4, .load 2 (.tmp 3), 2, none, true⟩, ⟨some 5, .binOp .geq 2 (.tmp 4) (.const (.int .i64 1)) 2, 4, none, true⟩, ⟨some 6, .move (.tmp 5), 4, none, true⟩, ⟨some 7, .fieldAddr 30 (.tmp 1) 0, 0, some (some 6), true⟩, ⟨some 8, .load 2 (.tmp 7), 2, some (some 6), true⟩, ⟨some 9, .binOp .leq 2 (.tmp 8) (.const (.int .i64 1099511627776)) 2, 4, some (some 6), true⟩, ⟨some 10, .pick (.tmp 6) (.tmp 9) (.const (.bool false)), 4, none, true⟩, ⟨some 11, .move (.tmp 10), 4, none, true⟩, ⟨some 12, .fieldAddr 30 (.tmp 1) 1, 0, some (some 11), true⟩, ⟨some 13, .load 3 (.tmp 12), 3, some (some 11), true⟩, ⟨some 14, .binOp .geq 3 (.tmp 13) (.const (.int .i64 1)) 3, 4, some (some 11), true⟩, ⟨some 15, .pick (.tmp 11) (.tmp 14) (.const (.bool false)), 4, none, true⟩, ⟨some 16, .move (.tmp 15), 4, none, true⟩, ⟨some 17, .fieldAddr 30 (.tmp 1) 1, 0, some (some 16), true⟩, ⟨some 18, .load 3 (.tmp 17), 3, some (some 16), true⟩, ⟨some 19, .binOp .leq 3 (.tmp 18) (.const (.int .i64 24)) 3, 4, some (some 16), true⟩, ⟨some 20, .pick (.tmp 16) (.tmp 19) (.const (.bool false)), 4, none, true⟩, ⟨some 21, .move (.tmp 20), 4, none, true⟩, ⟨some 22, .fieldAddr 30 (.tmp 1) 2, 0, some (some 21), true⟩, ⟨some 23, .load 3 (.tmp 22), 3, some (some 21), true⟩, ⟨some 24, .binOp .geq 3 (.tmp 23) (.const (.int .i64 0)) 3, 4, some (some 21), true⟩, ⟨some 25, .pick (.tmp 21) (.tmp 24) (.const (.bool false)), 4, none, true⟩, ⟨some 26, .move (.tmp 25), 4, none, true⟩, ⟨some 27, .fieldAddr 30 (.tmp 1) 2, 0, some (some 26), true⟩, ⟨some 28, .load 3 (.tmp 27), 3, some (some 26), true⟩, ⟨some 29, .binOp .lss 3 (.tmp 28) (.const (.int .i64 6)) 3, 4, some (some 26), true⟩, ⟨some 30, .pick (.tmp 26) (.tmp 29) (.const (.bool false)), 4, none, true⟩, ⟨some 31, .move (.tmp 30), 4, none, true⟩, ⟨some 32, .fieldAddr 30 (.tmp 1) 3, 0, some (some 31), true⟩, ⟨some 33, .load 3 (.tmp 32), 3, some (some 31), true⟩, ⟨some 34, .binOp .eql 3 (.tmp 33) (.const (.int .i64 1)) 3, 4, some (some 31), true⟩, ⟨some 35, .move (.tmp 34), 4, some (some 31), true⟩, ⟨some 36, .fieldAddr 30 (.tmp 1) 3, 0, some (some 35), false⟩, ⟨some 37, .load 3 (.tmp 36), 3, some (some 35), false⟩, ⟨some 38, .binOp .eql 3 (.tmp 37) (.const (.int .i64 2)) 3, 4, some (some 35), false⟩, ⟨some 39, .pick (.tmp 35) (.const (.bool true)) (.tmp 38), 4, some (some 31), true⟩, ⟨some 40, .pick (.tmp 31) (.tmp 39) (.const (.bool false)), 4, none, true⟩, ⟨some 41, .move (.tmp 40), 4, none, true⟩, ⟨some 42, .fieldAddr 30 (.tmp 1) 4, 0, some (some 41), true⟩, ⟨some 43, .load 2 (.tmp 42), 2, some (some 41), true⟩, ⟨some 44, .binOp .geq 2 (.tmp 43) (.const (.int .i64 1)) 2, 4, some (some 41), true⟩, ⟨some 45, .pick (.tmp 41) (.tmp 44) (.const (.bool false)), 4, none, true⟩, ⟨some 46, .move (.tmp 45), 4, none, true⟩, ⟨some 47, .fieldAddr 30 (.tmp 1) 4, 0, some (some 46), true⟩, ⟨some 48, .load 2 (.tmp 47), 2, some (some 46), true⟩, ⟨some 49, .binOp .leq 2 (.tmp 48) (.const (.int .i64 1000000000)) 2, 4, some (some 46), true⟩, ⟨some 50, .pick (.tmp 46) (.tmp 49) (.const (.bool false)), 4, none, true⟩, ⟨some 51, .move (.tmp 50), 4, none, true⟩, ⟨some 52, .fieldAddr 30 (.tmp 1) 5, 0, some (some 51), true⟩, ⟨some 53, .load 2 (.tmp 52), 2, some (some 51), true⟩, ⟨some 54, .binOp .geq 2 (.tmp 53) (.const (.int .i64 1)) 2, 4, some (some 51), true⟩, ⟨some 55, .pick (.tmp 51) (.tmp 54) (.const (.bool false)), 4, none, true⟩, ⟨some 56, .move (.tmp 55), 4, none, true⟩, ⟨some 57, .fieldAddr 30 (.tmp 1) 5, 0, some (some 56), true⟩, ⟨some 58, .load 2 (.tmp 57), 2, some (some 56), true⟩, ⟨some 59, .binOp .leq 2 (.tmp 58) (.const (.int .i64 1000000000000)) 2, 4, some (some 56), true⟩, ⟨some 60, .pick (.tmp 56) (.tmp 59) (.const (.bool false)), 4, none, true⟩, ⟨some 2, .assign (.tmp 60), 4, none, true⟩])
  .ret)
noncomputable def f22 : AFn := ⟨61, [.tmp 2], b22⟩
/-- (*novation/novationseat.Deck).Next -/
noncomputable def b23 : AC :=
  .seq (.region [⟨some 2, .assign (.const (.int .u64 0)), 58, none, true⟩])
  (.seq (.region [⟨some 3, .assign (.const (.int .u64 0)), 58, none, true⟩])
  (.seq (.seq (.draw (drawOf T.c23 2) [0, 1, 2, 3, 4, 5, 6, 7, 8, 9] [[], [0], [0, 1], [0, 1, 2], [], [4], [4, 5], [4, 5, 6], [4, 5, 6, 7], [0, 1, 2, 3, 4, 5, 6, 7, 8]])
  (.cond (.tmp 13) (.draw (drawOf T.c23 3) [0, 1, 2, 3, 4, 5, 6, 7, 8, 9, 10] [[], [0], [0, 1], [0, 1, 2], [], [4], [4, 5], [4, 5, 6], [0, 1, 2, 3, 4, 5, 6, 7], [0, 1, 2, 3, 4, 5, 6, 7, 8], [0, 1, 2, 3, 4, 5, 6, 7, 8, 9]]) .skip))
  (.seq (.region [⟨some 24, .move (.tmp 0), 24, none, true⟩, ⟨some 25, .nilCheck (.tmp 24), 0, none, true⟩, ⟨some 26, .fieldAddr 57 (.tmp 25) 1, 0, none, true⟩, ⟨some 27, .load 3 (.tmp 26), 3, none, true⟩, ⟨some 28, .binOp .add 3 (.tmp 27) (.const (.int .i64 1)) 3, 3, none, true⟩, ⟨some 29, .nilCheck (.tmp 24), 0, none, true⟩, ⟨some 30, .fieldAddr 57 (.tmp 29) 1, 0, none, true⟩, ⟨none, .store 3 (.tmp 30) (.tmp 28), 0, none, true⟩])
  (.seq (.region [⟨some 31, .move (.tmp 3), 58, none, true⟩, ⟨some 2, .assign (.tmp 31), 58, none, true⟩])
  .ret))))
noncomputable def f23 : AFn := ⟨32, [.tmp 2], b23⟩
/-- novation/novationref15.AddOrder -/
noncomputable def b24 : AC :=
  .seq (.region [⟨some 3, .box 30 (.tmp 1), 0, none, true⟩, ⟨some 4, .assign (.const (.slice none 0 0)), 26, none, true⟩, ⟨some 5, .assign (.const (.int .i64 0)), 40, none, true⟩])
  (.seq (.seq (.draw (drawOf T.c24 1) [0, 1, 2, 3, 4, 5, 6, 7, 8, 9, 10, 11, 12, 13, 14, 15, 16, 17, 18, 19, 20, 21, 22, 23, 24] [[], [0], [0, 1], [0, 1, 2], [0, 1, 2, 3], [0, 1, 2, 3, 4], [0, 1, 2, 3, 4, 5], [0, 1, 2, 3, 4, 5, 6], [0, 1, 2, 3, 4, 5, 6, 7], [0, 1, 2, 3, 4, 5, 6, 7, 8], [0, 1, 2, 3, 4, 5, 6, 7, 8, 9], [0, 1, 2, 3, 4, 5, 6, 7, 8, 9, 10], [0, 1, 2, 3, 4, 5, 6, 7, 8, 9, 10, 11], [0, 1, 2, 3, 4, 5, 6, 7, 8, 9, 10, 11, 12], [0, 1, 2, 3, 4, 5, 6, 7, 8, 9, 10, 11, 12, 13], [0, 1, 2, 3, 4, 5, 6, 7, 8, 9, 10, 11, 12], [0, 1, 2, 3, 4, 5, 6, 7, 8, 9, 10, 11, 12], [0, 1, 2, 3, 4, 5, 6, 7, 8, 9, 10, 11, 12, 16], [0, 1, 2, 3, 4, 5, 6, 7, 8, 9, 10, 11, 12, 16, 17], [0, 1, 2, 3, 4, 5, 6, 7, 8, 9, 10, 11, 12, 15, 16, 17, 18], [0, 1, 2, 3, 4, 5, 6, 7, 8, 9, 10, 11, 12, 15, 16, 17, 18, 19], [0, 1, 2, 3, 4, 5, 6, 7, 8, 9, 10, 11, 12, 15, 16, 17, 18, 19, 20], [0, 1, 2, 3, 4, 5, 6, 7, 8, 9, 10, 11, 12, 13, 14, 15, 16, 17, 18, 19, 20, 21], [0, 1, 2, 3, 4, 5, 6, 7, 8, 9, 10, 11, 12, 13, 14, 15, 16, 17, 18, 19, 20, 21, 22], [0, 1, 2, 3, 4, 5, 6, 7, 8, 9, 10, 11, 12, 13, 14, 15, 16, 17, 18, 19, 20, 21, 22, 23]])
  (.cond (.tmp 30) (.seq (.region [⟨some 4, .assign (.const (.slice none 0 0)), 26, none, true⟩, ⟨some 5, .assign (.const (.int .i64 1)), 40, none, true⟩])
  .ret) .skip))
  (.seq (.seq (.region [⟨some 31, .move (.tmp 0), 26, none, true⟩, ⟨some 32, .call (⟨.builtin .len, #[.tmp 31], #[26]⟩), 3, none, true⟩, ⟨some 33, .binOp .eql 3 (.tmp 32) (.const (.int .i64 32)) 3, 4, none, true⟩])
  (.cond (.tmp 33) (.seq (.region [⟨some 4, .assign (.const (.slice none 0 0)), 26, none, true⟩, ⟨some 5, .assign (.const (.int .i64 5)), 40, none, true⟩])
  .ret) .skip))
  (.seq (.draw (drawOf T.c24 5) [0, 1, 3, 2, 4, 5, 6, 7] [[], [], [0, 1], [], [3], [0, 1, 2, 3, 4], [0, 1, 2, 3, 4, 5], [0, 1, 2, 3, 4, 5, 6]])
  .ret)))
noncomputable def f24 : AFn := ⟨40, [.tmp 4, .tmp 5], b24⟩
/-- novation/novationref15.Cancel -/
noncomputable def b25 : AC :=
  .seq (.region [⟨some 6, .assign (.const (.slice none 0 0)), 26, none, true⟩, ⟨some 7, .assign (.const (.int .i64 0)), 40, none, true⟩])
  (.seq (.seq (.region [⟨some 10, .move (.tmp 0), 26, none, true⟩, ⟨some 11, .call (⟨.value (.func 29), #[.tmp 10], #[26]⟩), 4, none, true⟩, ⟨some 12, .unOp .not 4 (.tmp 11), 4, none, true⟩])
  (.cond (.tmp 12) (.seq (.region [⟨some 6, .assign (.const (.slice none 0 0)), 26, none, true⟩, ⟨some 7, .assign (.const (.int .i64 1)), 40, none, true⟩])
  .ret) .skip))
  (.seq (.region [⟨some 8, .assign (.const (.slice none 0 0)), 26, none, true⟩])
  (.seq (.seq (.region [⟨some 9, .assign (.const (.int .i64 0)), 3, none, true⟩])
  (.block 0 (.loop [true, true, true, false, false, false, false, false, true, true, false, false, false, false, false, false, false, false, false, false, false, false, false, false, false, false, false, false, false, false, false, false, false, false, false, false, false, false, false, false, false, false, false, false, false, false, false, false] (.seq (.seq (.region [⟨some 13, .move (.tmp 9), 3, none, true⟩, ⟨some 14, .move (.tmp 0), 26, none, true⟩, ⟨some 15, .call (⟨.builtin .len, #[.tmp 14], #[26]⟩), 3, none, true⟩, ⟨some 16, .binOp .lss 3 (.tmp 13) (.tmp 15) 3, 4, none, true⟩])
  (.cond (.tmp 16) .skip (.exit 0)))
  (.seq (.block 1 (.seq (.region [⟨some 19, .move (.tmp 0), 26, none, true⟩, ⟨some 20, .move (.tmp 9), 3, none, true⟩, ⟨some 21, .indexAddr 26 (.tmp 19) (.tmp 20), 0, none, true⟩, ⟨some 22, .fieldAddr 30 (.tmp 21) 0, 0, none, true⟩, ⟨some 23, .load 2 (.tmp 22), 2, none, true⟩, ⟨some 24, .move (.tmp 2), 2, none, true⟩, ⟨some 25, .binOp .neq 2 (.tmp 23) (.tmp 24) 2, 4, none, true⟩, ⟨some 26, .move (.tmp 25), 4, none, true⟩, ⟨some 27, .move (.tmp 0), 26, some (some 26), false⟩, ⟨some 28, .move (.tmp 9), 3, some (some 26), false⟩, ⟨some 29, .indexAddr 26 (.tmp 27) (.tmp 28), 0, some (some 26), false⟩, ⟨some 30, .fieldAddr 30 (.tmp 29) 1, 0, some (some 26), false⟩, ⟨some 31, .load 3 (.tmp 30), 3, some (some 26), false⟩, ⟨some 32, .move (.tmp 1), 3, some (some 26), false⟩, ⟨some 33, .binOp .neq 3 (.tmp 31) (.tmp 32) 3, 4, some (some 26), false⟩, ⟨some 34, .pick (.tmp 26) (.const (.bool true)) (.tmp 33), 4, none, true⟩])
  (.cond (.tmp 34) (.region [⟨some 35, .move (.tmp 8), 26, none, true⟩, ⟨some 36, .move (.tmp 0), 26, none, true⟩, ⟨some 37, .move (.tmp 9), 3, none, true⟩, ⟨some 38, .indexAddr 26 (.tmp 36) (.tmp 37), 0, none, true⟩, ⟨some 39, .load 30 (.tmp 38), 30, none, true⟩, ⟨some 40, .buildSlice 26 1 #[(0, .tmp 39)], 26, none, true⟩, ⟨some 41, .call (⟨.builtin .append, #[.tmp 35, .tmp 40], #[26, 26]⟩), 26, none, true⟩, ⟨some 8, .assign (.tmp 41), 26, none, true⟩]) .skip)))
  (.region [⟨some 17, .move (.tmp 9), 3, none, true⟩, ⟨some 18, .binOp .add 3 (.tmp 17) (.const (.int .i64 1)) 3, 3, none, true⟩, ⟨some 9, .assign (.tmp 18), 3, none, true⟩]))))))
  (.seq (.seq (.region [⟨some 42, .move (.tmp 8), 26, none, true⟩, ⟨some 43, .call (⟨.builtin .len, #[.tmp 42], #[26]⟩), 3, none, true⟩, ⟨some 44, .move (.tmp 0), 26, none, true⟩, ⟨some 45, .call (⟨.builtin .len, #[.tmp 44], #[26]⟩), 3, none, true⟩, ⟨some 46, .binOp .eql 3 (.tmp 43) (.tmp 45) 3, 4, none, true⟩])
  (.cond (.tmp 46) (.seq (.region [⟨some 6, .assign (.const (.slice none 0 0)), 26, none, true⟩, ⟨some 7, .assign (.const (.int .i64 3)), 40, none, true⟩])
  .ret) .skip))
  (.seq (.region [⟨some 47, .move (.tmp 8), 26, none, true⟩, ⟨some 6, .assign (.tmp 47), 26, none, true⟩, ⟨some 7, .assign (.const (.int .i64 0)), 40, none, true⟩])
  .ret)))))
noncomputable def f25 : AFn := ⟨48, [.tmp 6, .tmp 7], b25⟩
/-- novation/novationref15.DropOrders -/
noncomputable def b26 : AC :=
  .seq (.region [⟨some 4, .assign (.const (.slice none 0 0)), 26, none, true⟩])
  (.seq (.region [⟨some 5, .assign (.const (.slice none 0 0)), 26, none, true⟩])
  (.seq (.seq (.region [⟨some 9, .move (.tmp 0), 26, none, true⟩, ⟨some 10, .call (⟨.value (.func 29), #[.tmp 9], #[26]⟩), 4, none, true⟩, ⟨some 11, .unOp .not 4 (.tmp 10), 4, none, true⟩])
  (.cond (.tmp 11) (.seq (.region [⟨some 12, .move (.tmp 5), 26, none, true⟩, ⟨some 4, .assign (.tmp 12), 26, none, true⟩])
  .ret) .skip))
  (.seq (.seq (.region [⟨some 6, .assign (.const (.int .i64 0)), 3, none, true⟩])
  (.block 0 (.loop [true, true, false, false, false, true, true, false, false, false, false, false, false, false, false, false, false, false, false, false, false, false, false, false, false, false, false, false, false, false, false, false, false, false, false, false, false, false, false, false, false, false, false, false, false, false, false, false] (.seq (.seq (.region [⟨some 13, .move (.tmp 6), 3, none, true⟩, ⟨some 14, .move (.tmp 0), 26, none, true⟩, ⟨some 15, .call (⟨.builtin .len, #[.tmp 14], #[26]⟩), 3, none, true⟩, ⟨some 16, .binOp .lss 3 (.tmp 13) (.tmp 15) 3, 4, none, true⟩])
  (.cond (.tmp 16) .skip (.exit 0)))
  (.seq (.block 1 (.seq (.region [⟨some 7, .assign (.const (.bool false)), 4, none, true⟩])
  (.seq (.seq (.region [⟨some 8, .assign (.const (.int .i64 0)), 3, none, true⟩])
  (.block 2 (.loop [true, true, false, false, false, true, true, true, true, false, false, false, false, false, false, false, false, false, false, false, false, false, false, false, false, false, false, false, false, false, false, false, false, false, false, false, false, false, false, false, false, false, false, false, false, false, false, false] (.seq (.seq (.region [⟨some 19, .move (.tmp 8), 3, none, true⟩, ⟨some 20, .move (.tmp 1), 32, none, true⟩, ⟨some 21, .call (⟨.builtin .len, #[.tmp 20], #[32]⟩), 3, none, true⟩, ⟨some 22, .binOp .lss 3 (.tmp 19) (.tmp 21) 3, 4, none, true⟩])
  (.cond (.tmp 22) .skip (.exit 2)))
  (.seq (.block 3 (.draw (drawOf T.c26 11) [0, 1, 2, 3, 4, 5, 6, 7, 8, 9, 10, 11, 12, 13] [[], [0], [0, 1], [0, 1], [0, 1, 2, 3], [0, 1, 2, 3, 4], [0, 1], [0, 1], [0, 1, 6, 7], [0, 1, 6, 7, 8], [0, 1, 6, 7, 8, 9], [0, 1, 2, 3, 4, 5, 6, 7, 8, 9, 10], [0, 1, 2, 3, 4, 5, 6, 7, 8, 9, 10, 11], [0, 1, 2, 3, 4, 5, 6, 7, 8, 9, 10, 11, 12]]))
  (.region [⟨some 23, .move (.tmp 8), 3, none, true⟩, ⟨some 24, .binOp .add 3 (.tmp 23) (.const (.int .i64 1)) 3, 3, none, true⟩, ⟨some 8, .assign (.tmp 24), 3, none, true⟩]))))))
  (.seq (.region [⟨some 38, .move (.tmp 7), 4, none, true⟩, ⟨some 39, .unOp .not 4 (.tmp 38), 4, none, true⟩])
  (.cond (.tmp 39) (.region [⟨some 40, .move (.tmp 5), 26, none, true⟩, ⟨some 41, .move (.tmp 0), 26, none, true⟩, ⟨some 42, .move (.tmp 6), 3, none, true⟩, ⟨some 43, .indexAddr 26 (.tmp 41) (.tmp 42), 0, none, true⟩, ⟨some 44, .load 30 (.tmp 43), 30, none, true⟩, ⟨some 45, .buildSlice 26 1 #[(0, .tmp 44)], 26, none, true⟩, ⟨some 46, .call (⟨.builtin .append, #[.tmp 40, .tmp 45], #[26, 26]⟩), 26, none, true⟩, ⟨some 5, .assign (.tmp 46), 26, none, true⟩]) .skip)))))
  (.region [⟨some 17, .move (.tmp 6), 3, none, true⟩, ⟨some 18, .binOp .add 3 (.tmp 17) (.const (.int .i64 1)) 3, 3, none, true⟩, ⟨some 6, .assign (.tmp 18), 3, none, true⟩]))))))
  (.seq (.region [⟨some 47, .move (.tmp 5), 26, none, true⟩, ⟨some 4, .assign (.tmp 47), 26, none, true⟩])
  .ret))))
noncomputable def f26 : AFn := ⟨48, [.tmp 4], b26⟩
/-- novation/novationref15.Opens -/
noncomputable def b27 : AC :=
  .seq (.region [⟨some 4, .assign (.const (.slice none 0 0)), 47, none, true⟩])
  (.seq (.seq (.region [⟨some 5, .move (.tmp 0), 26, none, true⟩, ⟨some 6, .call (⟨.value (.func 29), #[.tmp 5], #[26]⟩), 4, none, true⟩, ⟨some 7, .unOp .not 4 (.tmp 6), 4, none, true⟩])
  (.cond (.tmp 7) (.seq (.region [⟨some 4, .assign (.const (.slice none 0 0)), 47, none, true⟩])
  .ret) .skip))
  (.seq (.region [⟨some 8, .move (.tmp 0), 26, none, true⟩, ⟨some 9, .move (.tmp 1), 3, none, true⟩, ⟨some 10, .call (⟨.value (.func 41), #[.tmp 8, .tmp 9], #[26, 3]⟩), 47, none, true⟩, ⟨some 4, .assign (.tmp 10), 47, none, true⟩])
  .ret))
noncomputable def f27 : AFn := ⟨11, [.tmp 4], b27⟩
/-- novation/novationref15.Walk -/
noncomputable def b28 : AC :=
  .seq (.region [⟨some 6, .assign (.const (.slice none 0 0)), 26, none, true⟩])
  (.seq (.region [⟨some 7, .assign (.const (.slice none 0 0)), 26, none, true⟩])
  (.seq (.seq (.region [⟨some 11, .move (.tmp 0), 26, none, true⟩, ⟨some 12, .call (⟨.value (.func 29), #[.tmp 11], #[26]⟩), 4, none, true⟩, ⟨some 13, .unOp .not 4 (.tmp 12), 4, none, true⟩])
  (.cond (.tmp 13) (.seq (.region [⟨some 14, .move (.tmp 7), 26, none, true⟩, ⟨some 6, .assign (.tmp 14), 26, none, true⟩])
  .ret) .skip))
  (.seq (.seq (.region [⟨some 8, .assign (.const (.int .i64 0)), 3, none, true⟩])
  (.block 0 (.loop [true, true, true, false, false, false, false, true, true, false, false, false, false, false, false, false, false, false, false, false, false, false, false, false, false, false, false, false, false, false, false, false, false, false, false, false, false, false, false, false, false, false, false, false, false, false, false, false, false, false, false, false, false, false, false, false, false, false, false, false, false, false, false, false, false, false, false, false, false, false, false, false] (.seq (.seq (.region [⟨some 15, .move (.tmp 8), 3, none, true⟩, ⟨some 16, .move (.tmp 0), 26, none, true⟩, ⟨some 17, .call (⟨.builtin .len, #[.tmp 16], #[26]⟩), 3, none, true⟩, ⟨some 18, .binOp .lss 3 (.tmp 15) (.tmp 17) 3, 4, none, true⟩])
  (.cond (.tmp 18) .skip (.exit 0)))
  (.seq (.block 1 (.seq (.seq (.region [⟨some 21, .move (.tmp 0), 26, none, true⟩, ⟨some 22, .move (.tmp 8), 3, none, true⟩, ⟨some 23, .indexAddr 26 (.tmp 21) (.tmp 22), 0, none, true⟩, ⟨some 24, .fieldAddr 30 (.tmp 23) 2, 0, none, true⟩, ⟨some 25, .load 3 (.tmp 24), 3, none, true⟩, ⟨some 26, .move (.tmp 1), 3, none, true⟩, ⟨some 27, .binOp .neq 3 (.tmp 25) (.tmp 26) 3, 4, none, true⟩, ⟨some 28, .move (.tmp 27), 4, none, true⟩, ⟨some 29, .move (.tmp 0), 26, some (some 28), false⟩, ⟨some 30, .move (.tmp 8), 3, some (some 28), false⟩, ⟨some 31, .indexAddr 26 (.tmp 29) (.tmp 30), 0, some (some 28), false⟩, ⟨some 32, .fieldAddr 30 (.tmp 31) 3, 0, some (some 28), false⟩, ⟨some 33, .load 3 (.tmp 32), 3, some (some 28), false⟩, ⟨some 34, .move (.tmp 2), 3, some (some 28), false⟩, ⟨some 35, .binOp .neq 3 (.tmp 33) (.tmp 34) 3, 4, some (some 28), false⟩, ⟨some 36, .pick (.tmp 28) (.const (.bool true)) (.tmp 35), 4, none, true⟩])
  (.cond (.tmp 36) (.exit 1) .skip))
  (.seq (.region [⟨some 9, .assign (.const (.int .i64 0)), 3, none, true⟩])
  (.seq (.block 2 (.loop [true, true, true, false, false, false, false, true, true, true, false, false, false, false, false, false, false, false, false, false, false, false, false, false, false, false, false, false, false, false, false, false, false, false, false, false, false, false, false, false, false, false, false, false, false, false, false, false, false, false, false, false, false, false, false, false, false, false, false, false, false, false, false, false, false, false, false, false, false, false, false, false] (.seq (.seq (.draw (drawOf T.c28 9) [0, 1, 2, 3, 4, 5, 6, 7, 8, 9, 10, 11, 12, 13, 14] [[], [], [1], [0, 1, 2], [0, 1, 2, 3], [0, 1, 2, 3, 4], [0, 1, 2, 3, 4], [0, 1, 2, 3, 4, 5, 6], [0, 1, 2, 3, 4, 5, 6, 7], [0, 1, 2, 3, 4], [0, 1, 2, 3, 4], [0, 1, 2, 3, 4, 9, 10], [0, 1, 2, 3, 4, 9, 10, 11], [0, 1, 2, 3, 4, 5, 6, 7, 8, 9, 10, 11, 12], [0, 1, 2, 3, 4, 5, 6, 7, 8, 9, 10, 11, 12, 13]])
  (.cond (.tmp 51) .skip (.exit 2)))
  (.block 3 (.region [⟨some 52, .move (.tmp 9), 3, none, true⟩, ⟨some 53, .binOp .add 3 (.tmp 52) (.const (.int .i64 1)) 3, 3, none, true⟩, ⟨some 9, .assign (.tmp 53), 3, none, true⟩])))))
  (.seq (.region [⟨some 10, .assign (.const (.slice none 0 0)), 26, none, true⟩])
  (.seq (.region [⟨some 54, .move (.tmp 10), 26, none, true⟩, ⟨some 55, .move (.tmp 7), 26, none, true⟩, ⟨some 56, .move (.tmp 9), 3, none, true⟩, ⟨some 57, .slice 26 (.tmp 55) none (some (.tmp 56)) none, 26, none, true⟩, ⟨some 58, .call (⟨.builtin .append, #[.tmp 54, .tmp 57], #[26, 26]⟩), 26, none, true⟩, ⟨some 10, .assign (.tmp 58), 26, none, true⟩])
  (.seq (.region [⟨some 59, .move (.tmp 10), 26, none, true⟩, ⟨some 60, .move (.tmp 0), 26, none, true⟩, ⟨some 61, .move (.tmp 8), 3, none, true⟩, ⟨some 62, .indexAddr 26 (.tmp 60) (.tmp 61), 0, none, true⟩, ⟨some 63, .load 30 (.tmp 62), 30, none, true⟩, ⟨some 64, .buildSlice 26 1 #[(0, .tmp 63)], 26, none, true⟩, ⟨some 65, .call (⟨.builtin .append, #[.tmp 59, .tmp 64], #[26, 26]⟩), 26, none, true⟩, ⟨some 10, .assign (.tmp 65), 26, none, true⟩])
  (.region [⟨some 66, .move (.tmp 10), 26, none, true⟩, ⟨some 67, .move (.tmp 7), 26, none, true⟩, ⟨some 68, .move (.tmp 9), 3, none, true⟩, ⟨some 69, .slice 26 (.tmp 67) (some (.tmp 68)) none none, 26, none, true⟩, ⟨some 70, .call (⟨.builtin .append, #[.tmp 66, .tmp 69], #[26, 26]⟩), 26, none, true⟩, ⟨some 7, .assign (.tmp 70), 26, none, true⟩]))))))))
  (.region [⟨some 19, .move (.tmp 8), 3, none, true⟩, ⟨some 20, .binOp .add 3 (.tmp 19) (.const (.int .i64 1)) 3, 3, none, true⟩, ⟨some 8, .assign (.tmp 20), 3, none, true⟩]))))))
  (.seq (.region [⟨some 71, .move (.tmp 7), 26, none, true⟩, ⟨some 6, .assign (.tmp 71), 26, none, true⟩])
  .ret))))
noncomputable def f28 : AFn := ⟨72, [.tmp 6], b28⟩
/-- novation/novationref15.Orders -/
noncomputable def b29 : AC :=
  .seq (.region [⟨some 2, .assign (.const (.bool false)), 4, none, true⟩])
  (.seq (.seq (.region [⟨some 4, .move (.tmp 0), 26, none, true⟩, ⟨some 5, .call (⟨.builtin .len, #[.tmp 4], #[26]⟩), 3, none, true⟩, ⟨some 6, .binOp .gtr 3 (.tmp 5) (.const (.int .i64 32)) 3, 4, none, true⟩])
  (.cond (.tmp 6) (.seq (.region [⟨some 2, .assign (.const (.bool false)), 4, none, true⟩])
  .ret) .skip))
  (.seq (.seq (.region [⟨some 3, .assign (.const (.int .i64 0)), 3, none, true⟩])
  (.block 0 (.loop [true, false, false, true, false, false, false, false, false, false, false, false, false, false, false, false, false, false, false, false, false, false, false, false, false, false, false, false, false, false, false, false, false, false, false, false, false] (.seq (.seq (.region [⟨some 7, .move (.tmp 3), 3, none, true⟩, ⟨some 8, .move (.tmp 0), 26, none, true⟩, ⟨some 9, .call (⟨.builtin .len, #[.tmp 8], #[26]⟩), 3, none, true⟩, ⟨some 10, .binOp .lss 3 (.tmp 7) (.tmp 9) 3, 4, none, true⟩])
  (.cond (.tmp 10) .skip (.exit 0)))
  (.seq (.block 1 (.seq (.draw (drawOf T.c29 6) [0, 1, 2, 3, 4, 5, 6, 7, 8, 9, 10, 11, 12, 13, 14, 15, 16, 17, 18, 19, 20, 21, 22, 23] [[], [], [0, 1], [0, 1, 2], [0, 1, 2, 3], [0, 1, 2, 3, 4], [0, 1, 2, 3, 4, 5], [0, 1, 2, 3, 4, 5, 6], [0, 1, 2, 3, 4, 5, 6, 7], [0, 1, 2, 3, 4, 5, 6, 7, 8], [0, 1, 2, 3, 4, 5, 6, 7, 8, 9], [0, 1, 2, 3, 4, 5, 6, 7, 8, 9], [0, 1, 2, 3, 4, 5, 6, 7, 8, 9, 10, 11], [0, 1, 2, 3, 4, 5, 6, 7, 8, 9, 10, 11, 12], [0, 1, 2, 3, 4, 5, 6, 7, 8, 9, 10, 11, 12, 13], [0, 1, 2, 3, 4, 5, 6, 7, 8, 9], [0, 1, 2, 3, 4, 5, 6, 7, 8, 9], [0, 1, 2, 3, 4, 5, 6, 7, 8, 9, 16], [0, 1, 2, 3, 4, 5, 6, 7, 8, 9, 15, 16, 17], [0, 1, 2, 3, 4, 5, 6, 7, 8, 9, 15, 16, 17, 18], [0, 1, 2, 3, 4, 5, 6, 7, 8, 9, 15, 16, 17, 18, 19], [0, 1, 2, 3, 4, 5, 6, 7, 8, 9, 10, 11, 12, 13, 14, 15, 16, 17, 18, 19, 20], [0, 1, 2, 3, 4, 5, 6, 7, 8, 9, 10, 11, 12, 13, 14, 15, 16, 17, 18, 19, 20, 21], [0, 1, 2, 3, 4, 5, 6, 7, 8, 9, 10, 11, 12, 13, 14, 15, 16, 17, 18, 19, 20, 21, 22]])
  (.cond (.tmp 36) (.seq (.region [⟨some 2, .assign (.const (.bool false)), 4, none, true⟩])
  .ret) .skip)))
  (.region [⟨some 11, .move (.tmp 3), 3, none, true⟩, ⟨some 12, .binOp .add 3 (.tmp 11) (.const (.int .i64 1)) 3, 3, none, true⟩, ⟨some 3, .assign (.tmp 12), 3, none, true⟩]))))))
  (.seq (.region [⟨some 2, .assign (.const (.bool true)), 4, none, true⟩])
  .ret)))
noncomputable def f29 : AFn := ⟨37, [.tmp 2], b29⟩
/-- novation/novationref15.RightOrder -/
noncomputable def b30 : AC :=
  .seq (.region [⟨some 1, .box 30 (.tmp 0), 0, none, true⟩, ⟨some 2, .assign (.const (.bool false)), 4, none, true⟩])
  (.seq (.region [⟨some 3, .fieldAddr 30 (.tmp 1) 0, 0, none, true⟩, ⟨some 4, .load 2 (.tmp 3), 2, none, true⟩, ⟨some 5, .binOp .geq 2 (.tmp 4) (.const (.int .i64 1)) 2, 4, none, true⟩, ⟨some 6, .move (.tmp 5), 4, none, true⟩, ⟨some 7, .fieldAddr 30 (.tmp 1) 0, 0, some (some 6), true⟩, ⟨some 8, .load 2 (.tmp 7), 2, some (some 6), true⟩, ⟨some 9, .binOp .leq 2 (.tmp 8) (.const (.int .i64 1099511627776)) 2, 4, some (some 6), true⟩, ⟨some 10, .pick (.tmp 6) (.tmp 9) (.const (.bool false)), 4, none, true⟩, ⟨some 11, .move (.tmp 10), 4, none, true⟩, ⟨some 12, .fieldAddr 30 (.tmp 1) 1, 0, some (some 11), true⟩, ⟨some 13, .load 3 (.tmp 12), 3, some (some 11), true⟩, ⟨some 14, .binOp .geq 3 (.tmp 13) (.const (.int .i64 1)) 3, 4, some (some 11), true⟩, ⟨some 15, .pick (.tmp 11) (.tmp 14) (.const (.bool false)), 4, none, true⟩, ⟨some 16, .move (.tmp 15), 4, none, true⟩, ⟨some 17, .fieldAddr 30 (.tmp 1) 1, 0, some (some 16), true⟩, ⟨some 18, .load 3 (.tmp 17), 3, some (some 16), true⟩, ⟨some 19, .binOp .leq 3 (.tmp 18) (.const (.int .i64 24)) 3, 4, some (some 16), true⟩, ⟨some 20, .pick (.tmp 16) (.tmp 19) (.const (.bool false)), 4, none, true⟩, ⟨some 21, .move (.tmp 20), 4, none, true⟩, ⟨some 22, .fieldAddr 30 (.tmp 1) 2, 0, some (some 21), true⟩, ⟨some 23, .load 3 (.tmp 22), 3, some (some 21), true⟩, ⟨some 24, .binOp .geq 3 (.tmp 23) (.const (.int .i64 0)) 3, 4, some (some 21), true⟩, ⟨some 25, .pick (.tmp 21) (.tmp 24) (.const (.bool false)), 4, none, true⟩, ⟨some 26, .move (.tmp 25), 4, none, true⟩, ⟨some 27, .fieldAddr 30 (.tmp 1) 2, 0, some (some 26), true⟩, ⟨some 28, .load 3 (.tmp 27), 3, some (some 26), true⟩, ⟨some 29, .binOp .lss 3 (.tmp 28) (.const (.int .i64 6)) 3, 4, some (some 26), true⟩, ⟨some 30, .pick (.tmp 26) (.tmp 29) (.const (.bool false)), 4, none, true⟩, ⟨some 31, .move (.tmp 30), 4, none, true⟩, ⟨some 32, .fieldAddr 30 (.tmp 1) 3, 0, some (some 31), true⟩, ⟨some 33, .load 3 (.tmp 32), 3, some (some 31), true⟩, ⟨some 34, .binOp .eql 3 (.tmp 33) (.const (.int .i64 1)) 3, 4, some (some 31), true⟩, ⟨some 35, .move (.tmp 34), 4, some (some 31), true⟩, ⟨some 36, .fieldAddr 30 (.tmp 1) 3, 0, some (some 35), false⟩, ⟨some 37, .load 3 (.tmp 36), 3, some (some 35), false⟩, ⟨some 38, .binOp .eql 3 (.tmp 37) (.const (.int .i64 2)) 3, 4, some (some 35), false⟩, ⟨some 39, .pick (.tmp 35) (.const (.bool true)) (.tmp 38), 4, some (some 31), true⟩, ⟨some 40, .pick (.tmp 31) (.tmp 39) (.const (.bool false)), 4, none, true⟩, ⟨some 41, .move (.tmp 40), 4, none, true⟩, ⟨some 42, .fieldAddr 30 (.tmp 1) 4, 0, some (some 41), true⟩, ⟨some 43, .load 2 (.tmp 42), 2, some (some 41), true⟩, ⟨some 44, .binOp .geq 2 (.tmp 43) (.const (.int .i64 1)) 2, 4, some (some 41), true⟩, ⟨some 45, .pick (.tmp 41) (.tmp 44) (.const (.bool false)), 4, none, true⟩, ⟨some 46, .move (.tmp 45), 4, none, true⟩, ⟨some 47, .fieldAddr 30 (.tmp 1) 4, 0, some (some 46), true⟩, ⟨some 48, .load 2 (.tmp 47), 2, some (some 46), true⟩, ⟨some 49, .binOp .leq 2 (.tmp 48) (.const (.int .i64 1000000000)) 2, 4, some (some 46), true⟩, ⟨some 50, .pick (.tmp 46) (.tmp 49) (.const (.bool false)), 4, none, true⟩, ⟨some 51, .move (.tmp 50), 4, none, true⟩, ⟨some 52, .fieldAddr 30 (.tmp 1) 5, 0, some (some 51), true⟩, ⟨some 53, .load 2 (.tmp 52), 2, some (some 51), true⟩, ⟨some 54, .call (⟨.value (.func 43), #[.tmp 53], #[2]⟩), 4, some (some 51), true⟩, ⟨some 55, .pick (.tmp 51) (.tmp 54) (.const (.bool false)), 4, none, true⟩, ⟨some 2, .assign (.tmp 55), 4, none, true⟩])
  .ret)
noncomputable def f30 : AFn := ⟨56, [.tmp 2], b30⟩
/-- novation/queue.better -/
noncomputable def b31 : AC :=
  .seq (.region [⟨some 2, .box 30 (.tmp 0), 0, none, true⟩, ⟨some 3, .box 30 (.tmp 1), 0, none, true⟩, ⟨some 4, .assign (.const (.bool false)), 4, none, true⟩])
  (.seq (.seq (.region [⟨some 5, .fieldAddr 30 (.tmp 2) 3, 0, none, true⟩, ⟨some 6, .load 3 (.tmp 5), 3, none, true⟩, ⟨some 7, .binOp .eql 3 (.tmp 6) (.const (.int .i64 1)) 3, 4, none, true⟩])
  (.cond (.tmp 7) (.seq (.region [⟨some 8, .fieldAddr 30 (.tmp 2) 5, 0, none, true⟩, ⟨some 9, .load 2 (.tmp 8), 2, none, true⟩, ⟨some 10, .fieldAddr 30 (.tmp 3) 5, 0, none, true⟩, ⟨some 11, .load 2 (.tmp 10), 2, none, true⟩, ⟨some 12, .binOp .gtr 2 (.tmp 9) (.tmp 11) 2, 4, none, true⟩, ⟨some 4, .assign (.tmp 12), 4, none, true⟩])
  .ret) .skip))
  (.seq (.region [⟨some 13, .fieldAddr 30 (.tmp 2) 5, 0, none, true⟩, ⟨some 14, .load 2 (.tmp 13), 2, none, true⟩, ⟨some 15, .fieldAddr 30 (.tmp 3) 5, 0, none, true⟩, ⟨some 16, .load 2 (.tmp 15), 2, none, true⟩, ⟨some 17, .binOp .lss 2 (.tmp 14) (.tmp 16) 2, 4, none, true⟩, ⟨some 4, .assign (.tmp 17), 4, none, true⟩])
  .ret))
noncomputable def f31 : AFn := ⟨18, [.tmp 4], b31⟩
/-- slices.Insert[[]novation/api.Order,novation/api.Order] -/
noncomputable def b32 : AC :=
  .seq (.region [⟨some 6, .assign (.const (.slice none 0 0)), 26, none, true⟩])
  (.seq (.region [⟨some 10, .move (.tmp 0), 26, none, true⟩, ⟨some 11, .move (.tmp 1), 3, none, true⟩, ⟨some 12, .slice 26 (.tmp 10) (some (.tmp 11)) none none, 26, none, true⟩])
  (.seq (.region [⟨some 13, .move (.tmp 2), 26, none, true⟩, ⟨some 14, .call (⟨.builtin .len, #[.tmp 13], #[26]⟩), 3, none, true⟩, ⟨some 7, .assign (.tmp 14), 3, none, true⟩])
  (.seq (.seq (.region [⟨some 15, .move (.tmp 7), 3, none, true⟩, ⟨some 16, .binOp .eql 3 (.tmp 15) (.const (.int .i64 0)) 3, 4, none, true⟩])
  (.cond (.tmp 16) (.seq (.region [⟨some 17, .move (.tmp 0), 26, none, true⟩, ⟨some 6, .assign (.tmp 17), 26, none, true⟩])
  .ret) .skip))
  (.seq (.region [⟨some 18, .move (.tmp 0), 26, none, true⟩, ⟨some 19, .call (⟨.builtin .len, #[.tmp 18], #[26]⟩), 3, none, true⟩, ⟨some 8, .assign (.tmp 19), 3, none, true⟩])
  (.seq (.seq (.region [⟨some 20, .move (.tmp 1), 3, none, true⟩, ⟨some 21, .move (.tmp 8), 3, none, true⟩, ⟨some 22, .binOp .eql 3 (.tmp 20) (.tmp 21) 3, 4, none, true⟩])
  (.cond (.tmp 22) (.seq (.region [⟨some 23, .move (.tmp 0), 26, none, true⟩, ⟨some 24, .move (.tmp 2), 26, none, true⟩, ⟨some 25, .call (⟨.builtin .append, #[.tmp 23, .tmp 24], #[26, 26]⟩), 26, none, true⟩, ⟨some 6, .assign (.tmp 25), 26, none, true⟩])
  .ret) .skip))
  (.seq (.seq (.region [⟨some 26, .move (.tmp 8), 3, none, true⟩, ⟨some 27, .move (.tmp 7), 3, none, true⟩, ⟨some 28, .binOp .add 3 (.tmp 26) (.tmp 27) 3, 3, none, true⟩, ⟨some 29, .move (.tmp 0), 26, none, true⟩, ⟨some 30, .call (⟨.builtin .cap, #[.tmp 29], #[26]⟩), 3, none, true⟩, ⟨some 31, .binOp .gtr 3 (.tmp 28) (.tmp 30) 3, 4, none, true⟩])
  (.cond (.tmp 31) (.seq (.region [⟨some 32, .move (.tmp 0), 26, none, true⟩, ⟨some 33, .move (.tmp 1), 3, none, true⟩, ⟨some 34, .slice 26 (.tmp 32) none (some (.tmp 33)) none, 26, none, true⟩, ⟨some 35, .move (.tmp 8), 3, none, true⟩, ⟨some 36, .move (.tmp 7), 3, none, true⟩, ⟨some 37, .binOp .add 3 (.tmp 35) (.tmp 36) 3, 3, none, true⟩, ⟨some 38, .move (.tmp 1), 3, none, true⟩, ⟨some 39, .binOp .sub 3 (.tmp 37) (.tmp 38) 3, 3, none, true⟩, ⟨some 40, .call (⟨.builtin .append, #[.tmp 34, .tmp 39], #[26, 3]⟩), 26, none, true⟩, ⟨some 9, .assign (.tmp 40), 26, none, true⟩])
  (.seq (.region [⟨some 41, .move (.tmp 9), 26, none, true⟩, ⟨some 42, .move (.tmp 1), 3, none, true⟩, ⟨some 43, .slice 26 (.tmp 41) (some (.tmp 42)) none none, 26, none, true⟩, ⟨some 44, .move (.tmp 2), 26, none, true⟩, ⟨some 45, .call (⟨.builtin .copy, #[.tmp 43, .tmp 44], #[26, 26]⟩), 3, none, true⟩])
  (.seq (.draw (drawOf T.c32 11) [0, 1, 2, 3, 4, 5, 6, 7, 8] [[], [], [], [1, 2], [0, 1, 2, 3], [], [], [5, 6], [0, 1, 2, 3, 4, 5, 6, 7]])
  (.seq (.region [⟨some 55, .move (.tmp 9), 26, none, true⟩, ⟨some 6, .assign (.tmp 55), 26, none, true⟩])
  .ret)))) .skip))
  (.seq (.region [⟨some 56, .move (.tmp 0), 26, none, true⟩, ⟨some 57, .move (.tmp 8), 3, none, true⟩, ⟨some 58, .move (.tmp 7), 3, none, true⟩, ⟨some 59, .binOp .add 3 (.tmp 57) (.tmp 58) 3, 3, none, true⟩, ⟨some 60, .slice 26 (.tmp 56) none (some (.tmp 59)) none, 26, none, true⟩, ⟨some 0, .assign (.tmp 60), 26, none, true⟩])
  (.seq (.seq (.region [⟨some 61, .move (.tmp 2), 26, none, true⟩, ⟨some 62, .move (.tmp 0), 26, none, true⟩, ⟨some 63, .move (.tmp 1), 3, none, true⟩, ⟨some 64, .move (.tmp 7), 3, none, true⟩, ⟨some 65, .binOp .add 3 (.tmp 63) (.tmp 64) 3, 3, none, true⟩, ⟨some 66, .slice 26 (.tmp 62) (some (.tmp 65)) none none, 26, none, true⟩, ⟨some 67, .call (⟨.value (.func 44), #[.tmp 61, .tmp 66], #[26, 26]⟩), 4, none, true⟩, ⟨some 68, .unOp .not 4 (.tmp 67), 4, none, true⟩])
  (.cond (.tmp 68) (.seq (.draw (drawOf T.c32 15) [0, 1, 2, 3, 4, 5, 6, 7, 8] [[], [], [], [1, 2], [0, 1, 2, 3], [], [], [5, 6], [0, 1, 2, 3, 4, 5, 6, 7]])
  (.seq (.region [⟨some 78, .move (.tmp 0), 26, none, true⟩, ⟨some 79, .move (.tmp 1), 3, none, true⟩, ⟨some 80, .slice 26 (.tmp 78) (some (.tmp 79)) none none, 26, none, true⟩, ⟨some 81, .move (.tmp 2), 26, none, true⟩, ⟨some 82, .call (⟨.builtin .copy, #[.tmp 80, .tmp 81], #[26, 26]⟩), 3, none, true⟩])
  (.seq (.region [⟨some 83, .move (.tmp 0), 26, none, true⟩, ⟨some 6, .assign (.tmp 83), 26, none, true⟩])
  .ret))) .skip))
  (.seq (.region [⟨some 84, .move (.tmp 0), 26, none, true⟩, ⟨some 85, .move (.tmp 8), 3, none, true⟩, ⟨some 86, .slice 26 (.tmp 84) (some (.tmp 85)) none none, 26, none, true⟩, ⟨some 87, .move (.tmp 2), 26, none, true⟩, ⟨some 88, .call (⟨.builtin .copy, #[.tmp 86, .tmp 87], #[26, 26]⟩), 3, none, true⟩])
  (.seq (.region [⟨some 89, .move (.tmp 0), 26, none, true⟩, ⟨some 90, .move (.tmp 1), 3, none, true⟩, ⟨some 91, .slice 26 (.tmp 89) (some (.tmp 90)) none none, 26, none, true⟩, ⟨some 92, .move (.tmp 7), 3, none, true⟩, ⟨some 93, .call (⟨.value (.func 45), #[.tmp 91, .tmp 92], #[26, 3]⟩), 0, none, true⟩])
  (.seq (.region [⟨some 94, .move (.tmp 0), 26, none, true⟩, ⟨some 6, .assign (.tmp 94), 26, none, true⟩])
  .ret)))))))))))
noncomputable def f32 : AFn := ⟨95, [.tmp 6], b32⟩
/-- novation/queue.Walk$1 -/
noncomputable def b33 : AC :=
  .seq (.region [⟨some 5, .load 26 (.tmp 1), 26, none, true⟩, ⟨some 6, .call (⟨.builtin .len, #[.tmp 5], #[26]⟩), 3, none, true⟩, ⟨some 7, .move (.const (.int .i64 0)), 3, none, true⟩])
  (.block 0 (.loop [true, false, false, false, false, true, true, true, false, false, false, false, false, false, false, false] (.seq (.region [⟨some 8, .binOp .lss 3 (.tmp 7) (.tmp 6) 3, 0, none, true⟩])
  (.seq (.cond (.tmp 8) .skip (.exit 0))
  (.seq (.block 1 (.seq (.region [⟨some 9, .indexAddr 26 (.tmp 5) (.tmp 7), 0, none, true⟩, ⟨some 10, .load 30 (.tmp 9), 30, none, true⟩, ⟨some 4, .alloc 30, 0, none, true⟩, ⟨none, .store 30 (.tmp 4) (.tmp 10), 0, none, true⟩])
  (.seq (.region [⟨some 11, .move (.tmp 0), 55, none, true⟩, ⟨some 12, .load 30 (.tmp 4), 30, none, true⟩, ⟨some 13, .call (⟨.value (.tmp 11), #[.tmp 12], #[30]⟩), 4, none, true⟩, ⟨some 14, .unOp .not 4 (.tmp 13), 4, none, true⟩])
  (.cond (.tmp 14) .ret .skip))))
  (.region [⟨some 15, .binOp .add 3 (.tmp 7) (.const (.int .i64 1)) 3, 3, none, true⟩, ⟨some 7, .move (.tmp 15), 3, none, true⟩]))))))
noncomputable def f33 : AFn := ⟨16, [], b33⟩
/-- slices.Clone[[]novation/api.Order,novation/api.Order] -/
noncomputable def b34 : AC :=
  .seq (.region [⟨some 2, .assign (.const (.slice none 0 0)), 26, none, true⟩])
  (.seq (.seq (.region [⟨some 3, .move (.tmp 0), 26, none, true⟩, ⟨some 4, .binOp .eql 26 (.tmp 3) (.const (.slice none 0 0)) 26, 4, none, true⟩])
  (.cond (.tmp 4) (.seq (.region [⟨some 2, .assign (.const (.slice none 0 0)), 26, none, true⟩])
  .ret) .skip))
  (.seq (.region [⟨some 5, .buildSlice 26 0 #[], 26, none, true⟩, ⟨some 6, .move (.tmp 0), 26, none, true⟩, ⟨some 7, .call (⟨.builtin .append, #[.tmp 5, .tmp 6], #[26, 26]⟩), 26, none, true⟩, ⟨some 2, .assign (.tmp 7), 26, none, true⟩])
  .ret))
noncomputable def f34 : AFn := ⟨8, [.tmp 2], b34⟩
/-- slices.IndexFunc[[]novation/api.Order,novation/api.Order] -/
noncomputable def b35 : AC :=
  .seq (.region [⟨some 4, .assign (.const (.int .i64 0)), 3, none, true⟩])
  (.seq (.seq (.region [⟨some 6, .move (.tmp 0), 26, none, true⟩, ⟨some 7, .call (⟨.builtin .len, #[.tmp 6], #[26]⟩), 3, none, true⟩, ⟨some 8, .move (.const (.int .i64 0)), 3, none, true⟩])
  (.block 0 (.loop [true, true, false, false, false, false, false, true, true, false, false, false, false, false, false, false, false, false, false] (.seq (.region [⟨some 9, .binOp .lss 3 (.tmp 8) (.tmp 7) 3, 0, none, true⟩])
  (.seq (.cond (.tmp 9) .skip (.exit 0))
  (.seq (.block 1 (.seq (.region [⟨some 10, .move (.tmp 8), 3, none, true⟩, ⟨some 5, .assign (.tmp 10), 3, none, true⟩])
  (.seq (.region [⟨some 11, .move (.tmp 1), 55, none, true⟩, ⟨some 12, .move (.tmp 0), 26, none, true⟩, ⟨some 13, .move (.tmp 5), 3, none, true⟩, ⟨some 14, .indexAddr 26 (.tmp 12) (.tmp 13), 0, none, true⟩, ⟨some 15, .load 30 (.tmp 14), 30, none, true⟩, ⟨some 16, .call (⟨.value (.tmp 11), #[.tmp 15], #[30]⟩), 4, none, true⟩])
  (.cond (.tmp 16) (.seq (.region [⟨some 17, .move (.tmp 5), 3, none, true⟩, ⟨some 4, .assign (.tmp 17), 3, none, true⟩])
  .ret) .skip))))
  (.region [⟨some 18, .binOp .add 3 (.tmp 8) (.const (.int .i64 1)) 3, 3, none, true⟩, ⟨some 8, .move (.tmp 18), 3, none, true⟩])))))))
  (.seq (.region [⟨some 4, .assign (.const (.int .i64 (-1))), 3, none, true⟩])
  .ret))
noncomputable def f35 : AFn := ⟨19, [.tmp 4], b35⟩
/-- novation/queue.Cancel$1 -/
noncomputable def b36 : AC :=
  .seq (.region [⟨some 3, .box 30 (.tmp 0), 0, none, true⟩, ⟨some 4, .assign (.const (.bool false)), 4, none, true⟩])
  (.seq (.region [⟨some 5, .fieldAddr 30 (.tmp 3) 0, 0, none, true⟩, ⟨some 6, .load 2 (.tmp 5), 2, none, true⟩, ⟨some 7, .load 2 (.tmp 1), 2, none, true⟩, ⟨some 8, .binOp .eql 2 (.tmp 6) (.tmp 7) 2, 4, none, true⟩, ⟨some 9, .move (.tmp 8), 4, none, true⟩, ⟨some 10, .fieldAddr 30 (.tmp 3) 1, 0, some (some 9), true⟩, ⟨some 11, .load 3 (.tmp 10), 3, some (some 9), true⟩, ⟨some 12, .load 3 (.tmp 2), 3, some (some 9), true⟩, ⟨some 13, .binOp .eql 3 (.tmp 11) (.tmp 12) 3, 4, some (some 9), true⟩, ⟨some 14, .pick (.tmp 9) (.tmp 13) (.const (.bool false)), 4, none, true⟩, ⟨some 4, .assign (.tmp 14), 4, none, true⟩])
  .ret)
noncomputable def f36 : AFn := ⟨15, [.tmp 4], b36⟩
/-- slices.Delete[[]novation/api.Order,novation/api.Order] -/
noncomputable def b37 : AC :=
  .seq (.region [⟨some 6, .assign (.const (.slice none 0 0)), 26, none, true⟩])
  (.seq (.region [⟨some 8, .move (.tmp 0), 26, none, true⟩, ⟨some 9, .move (.tmp 1), 3, none, true⟩, ⟨some 10, .move (.tmp 2), 3, none, true⟩, ⟨some 11, .move (.tmp 0), 26, none, true⟩, ⟨some 12, .call (⟨.builtin .len, #[.tmp 11], #[26]⟩), 3, none, true⟩, ⟨some 13, .slice 26 (.tmp 8) (some (.tmp 9)) (some (.tmp 10)) (some (.tmp 12)), 26, none, true⟩])
  (.seq (.seq (.region [⟨some 14, .move (.tmp 1), 3, none, true⟩, ⟨some 15, .move (.tmp 2), 3, none, true⟩, ⟨some 16, .binOp .eql 3 (.tmp 14) (.tmp 15) 3, 4, none, true⟩])
  (.cond (.tmp 16) (.seq (.region [⟨some 17, .move (.tmp 0), 26, none, true⟩, ⟨some 6, .assign (.tmp 17), 26, none, true⟩])
  .ret) .skip))
  (.seq (.region [⟨some 18, .move (.tmp 0), 26, none, true⟩, ⟨some 19, .call (⟨.builtin .len, #[.tmp 18], #[26]⟩), 3, none, true⟩, ⟨some 7, .assign (.tmp 19), 3, none, true⟩])
  (.seq (.draw (drawOf T.c37 5) [0, 1, 2, 3, 4, 5, 6, 7] [[], [], [0, 1], [], [], [3, 4], [0, 1, 2, 3, 4, 5], [0, 1, 2, 3, 4, 5, 6]])
  (.seq (.region [⟨some 27, .move (.tmp 0), 26, none, true⟩, ⟨some 28, .move (.tmp 0), 26, none, true⟩, ⟨some 29, .call (⟨.builtin .len, #[.tmp 28], #[26]⟩), 3, none, true⟩, ⟨some 30, .move (.tmp 7), 3, none, true⟩, ⟨some 31, .slice 26 (.tmp 27) (some (.tmp 29)) (some (.tmp 30)) none, 26, none, true⟩, ⟨none, .call (⟨.builtin .clear, #[.tmp 31], #[26]⟩), 0, none, true⟩])
  (.seq (.region [⟨some 32, .move (.tmp 0), 26, none, true⟩, ⟨some 6, .assign (.tmp 32), 26, none, true⟩])
  .ret))))))
noncomputable def f37 : AFn := ⟨33, [.tmp 6], b37⟩
/-- slices.DeleteFunc[[]novation/api.Order,novation/api.Order] -/
noncomputable def b38 : AC :=
  .seq (.region [⟨some 4, .assign (.const (.slice none 0 0)), 26, none, true⟩])
  (.seq (.region [⟨some 8, .move (.tmp 0), 26, none, true⟩, ⟨some 9, .move (.tmp 1), 55, none, true⟩, ⟨some 10, .call (⟨.value (.func 35), #[.tmp 8, .tmp 9], #[26, 55]⟩), 3, none, true⟩, ⟨some 5, .assign (.tmp 10), 3, none, true⟩])
  (.seq (.seq (.region [⟨some 11, .move (.tmp 5), 3, none, true⟩, ⟨some 12, .binOp .eql 3 (.tmp 11) (.const (.int .i64 (-1))) 3, 4, none, true⟩])
  (.cond (.tmp 12) (.seq (.region [⟨some 13, .move (.tmp 0), 26, none, true⟩, ⟨some 4, .assign (.tmp 13), 26, none, true⟩])
  .ret) .skip))
  (.seq (.seq (.region [⟨some 14, .move (.tmp 5), 3, none, true⟩, ⟨some 15, .binOp .add 3 (.tmp 14) (.const (.int .i64 1)) 3, 3, none, true⟩, ⟨some 6, .assign (.tmp 15), 3, none, true⟩])
  (.block 0 (.loop [true, true, false, false, false, true, true, false, false, false, false, false, false, false, false, false, false, false, false, false, false, false, false, false, false, false, false, false, false, false, false, false, false, false, false, false, false, false, false, false, false, false] (.seq (.seq (.region [⟨some 16, .move (.tmp 6), 3, none, true⟩, ⟨some 17, .move (.tmp 0), 26, none, true⟩, ⟨some 18, .call (⟨.builtin .len, #[.tmp 17], #[26]⟩), 3, none, true⟩, ⟨some 19, .binOp .lss 3 (.tmp 16) (.tmp 18) 3, 4, none, true⟩])
  (.cond (.tmp 19) .skip (.exit 0)))
  (.seq (.block 1 (.seq (.region [⟨some 22, .move (.tmp 0), 26, none, true⟩, ⟨some 23, .move (.tmp 6), 3, none, true⟩, ⟨some 24, .indexAddr 26 (.tmp 22) (.tmp 23), 0, none, true⟩, ⟨some 25, .load 30 (.tmp 24), 30, none, true⟩, ⟨some 7, .alloc 30, 0, none, true⟩, ⟨none, .store 30 (.tmp 7) (.tmp 25), 0, none, true⟩])
  (.seq (.region [⟨some 26, .move (.tmp 1), 55, none, true⟩, ⟨some 27, .load 30 (.tmp 7), 30, none, true⟩, ⟨some 28, .call (⟨.value (.tmp 26), #[.tmp 27], #[30]⟩), 4, none, true⟩, ⟨some 29, .unOp .not 4 (.tmp 28), 4, none, true⟩])
  (.cond (.tmp 29) (.seq (.region [⟨some 30, .move (.tmp 0), 26, none, true⟩, ⟨some 31, .move (.tmp 5), 3, none, true⟩, ⟨some 32, .load 30 (.tmp 7), 30, none, true⟩, ⟨some 33, .indexAddr 26 (.tmp 30) (.tmp 31), 0, none, true⟩, ⟨none, .store 30 (.tmp 33) (.tmp 32), 0, none, true⟩])
  (.region [⟨some 34, .move (.tmp 5), 3, none, true⟩, ⟨some 35, .binOp .add 3 (.tmp 34) (.const (.int .i64 1)) 3, 3, none, true⟩, ⟨some 5, .assign (.tmp 35), 3, none, true⟩])) .skip))))
  (.region [⟨some 20, .move (.tmp 6), 3, none, true⟩, ⟨some 21, .binOp .add 3 (.tmp 20) (.const (.int .i64 1)) 3, 3, none, true⟩, ⟨some 6, .assign (.tmp 21), 3, none, true⟩]))))))
  (.seq (.region [⟨some 36, .move (.tmp 0), 26, none, true⟩, ⟨some 37, .move (.tmp 5), 3, none, true⟩, ⟨some 38, .slice 26 (.tmp 36) (some (.tmp 37)) none none, 26, none, true⟩, ⟨none, .call (⟨.builtin .clear, #[.tmp 38], #[26]⟩), 0, none, true⟩])
  (.seq (.region [⟨some 39, .move (.tmp 0), 26, none, true⟩, ⟨some 40, .move (.tmp 5), 3, none, true⟩, ⟨some 41, .slice 26 (.tmp 39) none (some (.tmp 40)) none, 26, none, true⟩, ⟨some 4, .assign (.tmp 41), 26, none, true⟩])
  .ret)))))
noncomputable def f38 : AFn := ⟨42, [.tmp 4], b38⟩
/-- novation/queue.Drop$1 -/
noncomputable def b39 : AC :=
  .seq (.region [⟨some 2, .box 30 (.tmp 0), 0, none, true⟩, ⟨some 3, .assign (.const (.bool false)), 4, none, true⟩])
  (.seq (.region [⟨some 4, .load 32 (.tmp 1), 32, none, true⟩, ⟨some 5, .fieldAddr 30 (.tmp 2) 1, 0, none, true⟩, ⟨some 6, .load 3 (.tmp 5), 3, none, true⟩, ⟨some 7, .call (⟨.value (.func 40), #[.tmp 4, .tmp 6], #[32, 3]⟩), 4, none, true⟩, ⟨some 3, .assign (.tmp 7), 4, none, true⟩])
  .ret)
noncomputable def f39 : AFn := ⟨8, [.tmp 3], b39⟩
/-- slices.Contains[[]int,int] -/
noncomputable def b40 : AC :=
  .seq (.region [⟨some 4, .assign (.const (.bool false)), 4, none, true⟩])
  (.seq (.region [⟨some 5, .move (.tmp 0), 32, none, true⟩, ⟨some 6, .move (.tmp 1), 3, none, true⟩, ⟨some 7, .call (⟨.value (.func 46), #[.tmp 5, .tmp 6], #[32, 3]⟩), 3, none, true⟩, ⟨some 8, .binOp .geq 3 (.tmp 7) (.const (.int .i64 0)) 3, 4, none, true⟩, ⟨some 4, .assign (.tmp 8), 4, none, true⟩])
  .ret)
noncomputable def f40 : AFn := ⟨9, [.tmp 4], b40⟩
/-- novation/novationref15.opens -/
noncomputable def b41 : AC :=
  .seq (.region [⟨some 4, .assign (.const (.slice none 0 0)), 47, none, true⟩])
  (.seq (.region [⟨some 5, .assign (.const (.slice none 0 0)), 47, none, true⟩])
  (.seq (.seq (.region [⟨some 6, .assign (.const (.int .i64 0)), 3, none, true⟩])
  (.block 0 (.loop [true, true, false, false, false, true, true, false, false, false, false, false, false, false, false, false, false, false, false, false, false, false, false, false, false, false, false, false, false, false, false, false, false, false, false, false, false, false, false, false, false, false, false, false, false, false, false, false, false, false, false, false, false, false, false, false, false, false, false, false, false, false, false, false, false, false, false, false, false, false, false, false, false, false] (.seq (.seq (.region [⟨some 9, .move (.tmp 6), 3, none, true⟩, ⟨some 10, .binOp .lss 3 (.tmp 9) (.const (.int .i64 6)) 3, 4, none, true⟩])
  (.cond (.tmp 10) .skip (.exit 0)))
  (.seq (.block 1 (.seq (.region [⟨some 13, .move (.tmp 6), 3, none, true⟩, ⟨some 14, .build 50 #[(0, .tmp 13)], 50, none, true⟩, ⟨some 7, .alloc 50, 0, none, true⟩, ⟨none, .store 50 (.tmp 7) (.tmp 14), 0, none, true⟩])
  (.seq (.seq (.region [⟨some 8, .assign (.const (.int .i64 0)), 3, none, true⟩])
  (.block 2 (.loop [true, true, false, false, false, true, true, true, true, false, false, false, false, false, false, false, false, false, false, false, false, false, false, false, false, false, false, false, false, false, false, false, false, false, false, false, false, false, false, false, false, false, false, false, false, false, false, false, false, false, false, false, false, false, false, false, false, false, false, false, false, false, false, false, false, false, false, false, false, false, false, false, false, false] (.seq (.seq (.region [⟨some 15, .move (.tmp 8), 3, none, true⟩, ⟨some 16, .move (.tmp 0), 26, none, true⟩, ⟨some 17, .call (⟨.builtin .len, #[.tmp 16], #[26]⟩), 3, none, true⟩, ⟨some 18, .binOp .lss 3 (.tmp 15) (.tmp 17) 3, 4, none, true⟩])
  (.cond (.tmp 18) .skip (.exit 2)))
  (.seq (.block 3 (.seq (.seq (.region [⟨some 21, .move (.tmp 0), 26, none, true⟩, ⟨some 22, .move (.tmp 8), 3, none, true⟩, ⟨some 23, .indexAddr 26 (.tmp 21) (.tmp 22), 0, none, true⟩, ⟨some 24, .fieldAddr 30 (.tmp 23) 1, 0, none, true⟩, ⟨some 25, .load 3 (.tmp 24), 3, none, true⟩, ⟨some 26, .move (.tmp 1), 3, none, true⟩, ⟨some 27, .binOp .neq 3 (.tmp 25) (.tmp 26) 3, 4, none, true⟩, ⟨some 28, .move (.tmp 27), 4, none, true⟩, ⟨some 29, .move (.tmp 0), 26, some (some 28), false⟩, ⟨some 30, .move (.tmp 8), 3, some (some 28), false⟩, ⟨some 31, .indexAddr 26 (.tmp 29) (.tmp 30), 0, some (some 28), false⟩, ⟨some 32, .fieldAddr 30 (.tmp 31) 2, 0, some (some 28), false⟩, ⟨some 33, .load 3 (.tmp 32), 3, some (some 28), false⟩, ⟨some 34, .move (.tmp 6), 3, some (some 28), false⟩, ⟨some 35, .binOp .neq 3 (.tmp 33) (.tmp 34) 3, 4, some (some 28), false⟩, ⟨some 36, .pick (.tmp 28) (.const (.bool true)) (.tmp 35), 4, none, true⟩])
  (.cond (.tmp 36) (.exit 3) .skip))
  (.seq (.region [⟨some 37, .move (.tmp 0), 26, none, true⟩, ⟨some 38, .move (.tmp 8), 3, none, true⟩, ⟨some 39, .indexAddr 26 (.tmp 37) (.tmp 38), 0, none, true⟩, ⟨some 40, .fieldAddr 30 (.tmp 39) 3, 0, none, true⟩, ⟨some 41, .load 3 (.tmp 40), 3, none, true⟩, ⟨some 42, .binOp .eql 3 (.tmp 41) (.const (.int .i64 1)) 3, 4, none, true⟩])
  (.cond (.tmp 42) (.draw (drawOf T.c41 11) [0, 1, 2, 3, 4, 5, 6, 7, 8, 9] [[], [0], [], [], [2, 3], [2, 3, 4], [2, 3, 4, 5], [0, 1, 2, 3, 4, 5, 6], [0, 1, 2, 3, 4, 5, 6, 7], [0, 1, 2, 3, 4, 5, 6, 7, 8]]) (.draw (drawOf T.c41 12) [0, 1, 2, 3, 4, 5, 6, 7, 8, 9] [[], [0], [], [], [2, 3], [2, 3, 4], [2, 3, 4, 5], [0, 1, 2, 3, 4, 5, 6], [0, 1, 2, 3, 4, 5, 6, 7], [0, 1, 2, 3, 4, 5, 6, 7, 8]])))))
  (.region [⟨some 19, .move (.tmp 8), 3, none, true⟩, ⟨some 20, .binOp .add 3 (.tmp 19) (.const (.int .i64 1)) 3, 3, none, true⟩, ⟨some 8, .assign (.tmp 20), 3, none, true⟩]))))))
  (.seq (.region [⟨some 61, .fieldAddr 50 (.tmp 7) 1, 0, none, true⟩, ⟨some 62, .load 2 (.tmp 61), 2, none, true⟩, ⟨some 63, .binOp .gtr 2 (.tmp 62) (.const (.int .i64 0)) 2, 4, none, true⟩, ⟨some 64, .move (.tmp 63), 4, none, true⟩, ⟨some 65, .fieldAddr 50 (.tmp 7) 2, 0, some (some 64), false⟩, ⟨some 66, .load 2 (.tmp 65), 2, some (some 64), false⟩, ⟨some 67, .binOp .gtr 2 (.tmp 66) (.const (.int .i64 0)) 2, 4, some (some 64), false⟩, ⟨some 68, .pick (.tmp 64) (.const (.bool true)) (.tmp 67), 4, none, true⟩])
  (.cond (.tmp 68) (.region [⟨some 69, .move (.tmp 5), 47, none, true⟩, ⟨some 70, .load 50 (.tmp 7), 50, none, true⟩, ⟨some 71, .buildSlice 47 1 #[(0, .tmp 70)], 47, none, true⟩, ⟨some 72, .call (⟨.builtin .append, #[.tmp 69, .tmp 71], #[47, 47]⟩), 47, none, true⟩, ⟨some 5, .assign (.tmp 72), 47, none, true⟩]) .skip)))))
  (.region [⟨some 11, .move (.tmp 6), 3, none, true⟩, ⟨some 12, .binOp .add 3 (.tmp 11) (.const (.int .i64 1)) 3, 3, none, true⟩, ⟨some 6, .assign (.tmp 12), 3, none, true⟩]))))))
  (.seq (.region [⟨some 73, .move (.tmp 5), 47, none, true⟩, ⟨some 4, .assign (.tmp 73), 47, none, true⟩])
  .ret)))
noncomputable def f41 : AFn := ⟨74, [.tmp 4], b41⟩
/-- novation/novationref15.ahead -/
noncomputable def b42 : AC :=
  .seq (.region [⟨some 2, .box 30 (.tmp 0), 0, none, true⟩, ⟨some 3, .box 30 (.tmp 1), 0, none, true⟩, ⟨some 4, .assign (.const (.bool false)), 4, none, true⟩])
  (.seq (.seq (.region [⟨some 5, .fieldAddr 30 (.tmp 2) 5, 0, none, true⟩, ⟨some 6, .load 2 (.tmp 5), 2, none, true⟩, ⟨some 7, .fieldAddr 30 (.tmp 3) 5, 0, none, true⟩, ⟨some 8, .load 2 (.tmp 7), 2, none, true⟩, ⟨some 9, .binOp .neq 2 (.tmp 6) (.tmp 8) 2, 4, none, true⟩])
  (.cond (.tmp 9) (.seq (.region [⟨some 10, .fieldAddr 30 (.tmp 2) 5, 0, none, true⟩, ⟨some 11, .load 2 (.tmp 10), 2, none, true⟩, ⟨some 12, .fieldAddr 30 (.tmp 3) 5, 0, none, true⟩, ⟨some 13, .load 2 (.tmp 12), 2, none, true⟩, ⟨some 14, .binOp .gtr 2 (.tmp 11) (.tmp 13) 2, 4, none, true⟩, ⟨some 15, .fieldAddr 30 (.tmp 2) 3, 0, none, true⟩, ⟨some 16, .load 3 (.tmp 15), 3, none, true⟩, ⟨some 17, .binOp .eql 3 (.tmp 16) (.const (.int .i64 1)) 3, 4, none, true⟩, ⟨some 18, .binOp .eql 4 (.tmp 14) (.tmp 17) 4, 4, none, true⟩, ⟨some 4, .assign (.tmp 18), 4, none, true⟩])
  .ret) .skip))
  (.seq (.region [⟨some 19, .fieldAddr 30 (.tmp 2) 0, 0, none, true⟩, ⟨some 20, .load 2 (.tmp 19), 2, none, true⟩, ⟨some 21, .fieldAddr 30 (.tmp 3) 0, 0, none, true⟩, ⟨some 22, .load 2 (.tmp 21), 2, none, true⟩, ⟨some 23, .binOp .lss 2 (.tmp 20) (.tmp 22) 2, 4, none, true⟩, ⟨some 4, .assign (.tmp 23), 4, none, true⟩])
  .ret))
noncomputable def f42 : AFn := ⟨24, [.tmp 4], b42⟩
/-- novation/novationref15.price -/
noncomputable def b43 : AC :=
  .seq (.region [⟨some 2, .assign (.const (.bool false)), 4, none, true⟩])
  (.seq (.region [⟨some 3, .move (.tmp 0), 2, none, true⟩, ⟨some 4, .binOp .geq 2 (.tmp 3) (.const (.int .i64 1)) 2, 4, none, true⟩, ⟨some 5, .move (.tmp 4), 4, none, true⟩, ⟨some 6, .move (.tmp 0), 2, some (some 5), true⟩, ⟨some 7, .binOp .leq 2 (.tmp 6) (.const (.int .i64 1000000000000)) 2, 4, some (some 5), true⟩, ⟨some 8, .pick (.tmp 5) (.tmp 7) (.const (.bool false)), 4, none, true⟩, ⟨some 2, .assign (.tmp 8), 4, none, true⟩])
  .ret)
noncomputable def f43 : AFn := ⟨9, [.tmp 2], b43⟩
/-- slices.rotateRight[novation/api.Order] -/
noncomputable def b45 : AC :=
  .region [⟨some 4, .move (.tmp 0), 26, none, true⟩, ⟨some 5, .move (.tmp 0), 26, none, true⟩, ⟨some 6, .call (⟨.builtin .len, #[.tmp 5], #[26]⟩), 3, none, true⟩, ⟨some 7, .move (.tmp 1), 3, none, true⟩, ⟨some 8, .binOp .sub 3 (.tmp 6) (.tmp 7) 3, 3, none, true⟩, ⟨some 9, .call (⟨.value (.func 47), #[.tmp 4, .tmp 8], #[26, 3]⟩), 0, none, true⟩]
noncomputable def f45 : AFn := ⟨10, [], b45⟩
/-- slices.Index[[]int,int] -/
noncomputable def b46 : AC :=
  .seq (.region [⟨some 4, .assign (.const (.int .i64 0)), 3, none, true⟩])
  (.seq (.seq (.region [⟨some 6, .move (.tmp 0), 32, none, true⟩, ⟨some 7, .call (⟨.builtin .len, #[.tmp 6], #[32]⟩), 3, none, true⟩, ⟨some 8, .move (.const (.int .i64 0)), 3, none, true⟩])
  (.block 0 (.loop [true, true, false, false, false, false, false, true, true, false, false, false, false, false, false, false, false, false, false] (.seq (.region [⟨some 9, .binOp .lss 3 (.tmp 8) (.tmp 7) 3, 0, none, true⟩])
  (.seq (.cond (.tmp 9) .skip (.exit 0))
  (.seq (.block 1 (.seq (.region [⟨some 10, .move (.tmp 8), 3, none, true⟩, ⟨some 5, .assign (.tmp 10), 3, none, true⟩])
  (.seq (.region [⟨some 11, .move (.tmp 1), 3, none, true⟩, ⟨some 12, .move (.tmp 0), 32, none, true⟩, ⟨some 13, .move (.tmp 5), 3, none, true⟩, ⟨some 14, .indexAddr 32 (.tmp 12) (.tmp 13), 0, none, true⟩, ⟨some 15, .load 3 (.tmp 14), 3, none, true⟩, ⟨some 16, .binOp .eql 3 (.tmp 11) (.tmp 15) 3, 4, none, true⟩])
  (.cond (.tmp 16) (.seq (.region [⟨some 17, .move (.tmp 5), 3, none, true⟩, ⟨some 4, .assign (.tmp 17), 3, none, true⟩])
  .ret) .skip))))
  (.region [⟨some 18, .binOp .add 3 (.tmp 8) (.const (.int .i64 1)) 3, 3, none, true⟩, ⟨some 8, .move (.tmp 18), 3, none, true⟩])))))))
  (.seq (.region [⟨some 4, .assign (.const (.int .i64 (-1))), 3, none, true⟩])
  .ret))
noncomputable def f46 : AFn := ⟨19, [.tmp 4], b46⟩
/-- slices.rotateLeft[novation/api.Order] -/
noncomputable def b47 : AC :=
  .seq (.region [⟨some 4, .move (.tmp 0), 26, none, true⟩, ⟨some 5, .move (.tmp 1), 3, none, true⟩, ⟨some 6, .slice 26 (.tmp 4) none (some (.tmp 5)) none, 26, none, true⟩, ⟨some 7, .call (⟨.value (.func 48), #[.tmp 6], #[26]⟩), 0, none, true⟩])
  (.seq (.region [⟨some 8, .move (.tmp 0), 26, none, true⟩, ⟨some 9, .move (.tmp 1), 3, none, true⟩, ⟨some 10, .slice 26 (.tmp 8) (some (.tmp 9)) none none, 26, none, true⟩, ⟨some 11, .call (⟨.value (.func 48), #[.tmp 10], #[26]⟩), 0, none, true⟩])
  (.region [⟨some 12, .move (.tmp 0), 26, none, true⟩, ⟨some 13, .call (⟨.value (.func 48), #[.tmp 12], #[26]⟩), 0, none, true⟩]))
noncomputable def f47 : AFn := ⟨14, [], b47⟩
/-- slices.Reverse[[]novation/api.Order,novation/api.Order] -/
noncomputable def b48 : AC :=
  .seq (.region [⟨some 4, .move (.tmp 0), 26, none, true⟩, ⟨some 5, .call (⟨.builtin .len, #[.tmp 4], #[26]⟩), 3, none, true⟩, ⟨some 6, .binOp .sub 3 (.tmp 5) (.const (.int .i64 1)) 3, 3, none, true⟩, ⟨some 2, .assign (.const (.int .i64 0)), 3, none, true⟩, ⟨some 3, .assign (.tmp 6), 3, none, true⟩])
  (.block 0 (.loop [true, false, true, true, false, false, false, false, false, false, false, false, false, false, false, false, false, false, false, false, false, false, false, false, false, false, false, false] (.seq (.seq (.region [⟨some 7, .move (.tmp 2), 3, none, true⟩, ⟨some 8, .move (.tmp 3), 3, none, true⟩, ⟨some 9, .binOp .lss 3 (.tmp 7) (.tmp 8) 3, 4, none, true⟩])
  (.cond (.tmp 9) .skip (.exit 0)))
  (.seq (.block 1 (.draw (drawOf T.c48 3) [0, 1, 2, 3, 4, 5, 6, 7, 8, 9, 10, 11, 12, 13, 14, 15] [[], [], [], [], [], [], [4, 5], [4, 5, 6], [], [], [8, 9], [8, 9, 10], [0, 1, 4, 5, 6, 7, 8, 9, 10, 11], [0, 1, 4, 5, 6, 7, 8, 9, 10, 11, 12], [0, 1, 2, 3, 4, 5, 6, 7, 8, 9, 10, 11, 12, 13], [0, 1, 2, 3, 4, 5, 6, 7, 8, 9, 10, 11, 12, 13, 14]]))
  (.region [⟨some 10, .move (.tmp 2), 3, none, true⟩, ⟨some 11, .binOp .add 3 (.tmp 10) (.const (.int .i64 1)) 3, 3, none, true⟩, ⟨some 12, .move (.tmp 3), 3, none, true⟩, ⟨some 13, .binOp .sub 3 (.tmp 12) (.const (.int .i64 1)) 3, 3, none, true⟩, ⟨some 2, .assign (.tmp 11), 3, none, true⟩, ⟨some 3, .assign (.tmp 13), 3, none, true⟩])))))
noncomputable def f48 : AFn := ⟨28, [], b48⟩
def tys : List (Nat × TI) := [(1, t1), (2, t2), (3, t3), (4, t4), (5, t5), (6, t6), (8, t8), (22, t22), (24, t24), (26, t26), (30, t30), (32, t32), (37, t37), (40, t40), (47, t47), (50, t50), (52, t52), (55, t55), (57, t57), (58, t58)]
noncomputable def fns : List (Nat × AFn) := [(3, f3), (4, f4), (5, f5), (6, f6), (7, f7), (8, f8), (9, f9), (10, f10), (11, f11), (12, f12), (13, f13), (14, f14), (15, f15), (16, f16), (17, f17), (18, f18), (19, f19), (20, f20), (21, f21), (22, f22), (23, f23), (24, f24), (25, f25), (26, f26), (27, f27), (28, f28), (29, f29), (30, f30), (31, f31), (32, f32), (33, f33), (34, f34), (35, f35), (36, f36), (37, f37), (38, f38), (39, f39), (40, f40), (41, f41), (42, f42), (43, f43), (45, f45), (46, f46), (47, f47), (48, f48)]
noncomputable def ap0 : AP := { ty := fun t => tys.lookup t, fn := fun f => fns.lookup f, prim := fun _ => none }
def gcs : List Nat := [12, 17, 21, 22, 29, 30, 31, 35, 36, 39, 40, 42, 43, 46]
def insP (f : Nat) : Option (List AV → Nat → AH → Option (AV × AH)) := if f = 32 then some (insX 6) else none
def extP (f : Nat) : Option (List AV → AH → Option (AV × AH)) := if f = 44 then some overlapsX else none
noncomputable def apN : AP := { ap0 with ext := extP, pl := true }
noncomputable def apP : AP := { apN with prim := insP }
noncomputable def ap : AP := { apP with prim := fun f => insP f, gc := fun f => gcs.contains f }
theorem ty1 : ap.ty 1 = some t1 := by kernel_rfl
theorem ty2 : ap.ty 2 = some t2 := by kernel_rfl
theorem ty3 : ap.ty 3 = some t3 := by kernel_rfl
theorem ty4 : ap.ty 4 = some t4 := by kernel_rfl
theorem ty5 : ap.ty 5 = some t5 := by kernel_rfl
theorem ty6 : ap.ty 6 = some t6 := by kernel_rfl
theorem ty8 : ap.ty 8 = some t8 := by kernel_rfl
theorem ty22 : ap.ty 22 = some t22 := by kernel_rfl
theorem ty24 : ap.ty 24 = some t24 := by kernel_rfl
theorem ty26 : ap.ty 26 = some t26 := by kernel_rfl
theorem ty30 : ap.ty 30 = some t30 := by kernel_rfl
theorem ty32 : ap.ty 32 = some t32 := by kernel_rfl
theorem ty37 : ap.ty 37 = some t37 := by kernel_rfl
theorem ty40 : ap.ty 40 = some t40 := by kernel_rfl
theorem ty47 : ap.ty 47 = some t47 := by kernel_rfl
theorem ty50 : ap.ty 50 = some t50 := by kernel_rfl
theorem ty52 : ap.ty 52 = some t52 := by kernel_rfl
theorem ty55 : ap.ty 55 = some t55 := by kernel_rfl
theorem ty57 : ap.ty 57 = some t57 := by kernel_rfl
theorem ty58 : ap.ty 58 = some t58 := by kernel_rfl
theorem fn3 : ap.fn 3 = some f3 := by kernel_rfl
theorem fn4 : ap.fn 4 = some f4 := by kernel_rfl
theorem fn5 : ap.fn 5 = some f5 := by kernel_rfl
theorem fn6 : ap.fn 6 = some f6 := by kernel_rfl
theorem fn7 : ap.fn 7 = some f7 := by kernel_rfl
theorem fn8 : ap.fn 8 = some f8 := by kernel_rfl
theorem fn9 : ap.fn 9 = some f9 := by kernel_rfl
theorem fn10 : ap.fn 10 = some f10 := by kernel_rfl
theorem fn11 : ap.fn 11 = some f11 := by kernel_rfl
theorem fn12 : ap.fn 12 = some f12 := by kernel_rfl
theorem fn13 : ap.fn 13 = some f13 := by kernel_rfl
theorem fn14 : ap.fn 14 = some f14 := by kernel_rfl
theorem fn15 : ap.fn 15 = some f15 := by kernel_rfl
theorem fn16 : ap.fn 16 = some f16 := by kernel_rfl
theorem fn17 : ap.fn 17 = some f17 := by kernel_rfl
theorem fn18 : ap.fn 18 = some f18 := by kernel_rfl
theorem fn19 : ap.fn 19 = some f19 := by kernel_rfl
theorem fn20 : ap.fn 20 = some f20 := by kernel_rfl
theorem fn21 : ap.fn 21 = some f21 := by kernel_rfl
theorem fn22 : ap.fn 22 = some f22 := by kernel_rfl
theorem fn23 : ap.fn 23 = some f23 := by kernel_rfl
theorem fn24 : ap.fn 24 = some f24 := by kernel_rfl
theorem fn25 : ap.fn 25 = some f25 := by kernel_rfl
theorem fn26 : ap.fn 26 = some f26 := by kernel_rfl
theorem fn27 : ap.fn 27 = some f27 := by kernel_rfl
theorem fn28 : ap.fn 28 = some f28 := by kernel_rfl
theorem fn29 : ap.fn 29 = some f29 := by kernel_rfl
theorem fn30 : ap.fn 30 = some f30 := by kernel_rfl
theorem fn31 : ap.fn 31 = some f31 := by kernel_rfl
theorem fn32 : ap.fn 32 = some f32 := by kernel_rfl
theorem fn33 : ap.fn 33 = some f33 := by kernel_rfl
theorem fn34 : ap.fn 34 = some f34 := by kernel_rfl
theorem fn35 : ap.fn 35 = some f35 := by kernel_rfl
theorem fn36 : ap.fn 36 = some f36 := by kernel_rfl
theorem fn37 : ap.fn 37 = some f37 := by kernel_rfl
theorem fn38 : ap.fn 38 = some f38 := by kernel_rfl
theorem fn39 : ap.fn 39 = some f39 := by kernel_rfl
theorem fn40 : ap.fn 40 = some f40 := by kernel_rfl
theorem fn41 : ap.fn 41 = some f41 := by kernel_rfl
theorem fn42 : ap.fn 42 = some f42 := by kernel_rfl
theorem fn43 : ap.fn 43 = some f43 := by kernel_rfl
theorem fn45 : ap.fn 45 = some f45 := by kernel_rfl
theorem fn46 : ap.fn 46 = some f46 := by kernel_rfl
theorem fn47 : ap.fn 47 = some f47 := by kernel_rfl
theorem fn48 : ap.fn 48 = some f48 := by kernel_rfl
theorem types : ∀ x ∈ tys, tiOf Try.prog x.1 = some x.2 := by
  simp only [tys, List.forall_mem_cons]
  exact ⟨by kernel_rfl, by kernel_rfl, by kernel_rfl, by kernel_rfl, by kernel_rfl, by kernel_rfl, by kernel_rfl, by kernel_rfl, by kernel_rfl, by kernel_rfl, by kernel_rfl, by kernel_rfl, by kernel_rfl, by kernel_rfl, by kernel_rfl, by kernel_rfl, by kernel_rfl, by kernel_rfl, by kernel_rfl, by kernel_rfl, fun _ h => by cases h⟩
theorem funcs : ∀ x ∈ fns, FnOk Try.prog x.1 x.2 := by
  simp only [fns, List.forall_mem_cons]
  exact ⟨fnOk_of Try.func3 rfl (by decide +kernel) (by kernel_rfl) (by kernel_rfl) (by kernel_rfl), fnOk_of Try.func4 rfl (by decide +kernel) (by kernel_rfl) (by kernel_rfl) (by kernel_rfl), fnOk_of Try.func5 rfl (by decide +kernel) (by kernel_rfl) (by kernel_rfl) (by kernel_rfl), fnOk_of Try.func6 rfl (by decide +kernel) (by kernel_rfl) (by kernel_rfl) (by kernel_rfl), fnOk_of Try.func7 rfl (by decide +kernel) (by kernel_rfl) (by kernel_rfl) (by kernel_rfl), fnOk_of Try.func8 rfl (by decide +kernel) (by kernel_rfl) (by kernel_rfl) (by kernel_rfl), fnOk_of Try.func9 rfl (by decide +kernel) (by kernel_rfl) (by kernel_rfl) (by kernel_rfl), fnOk_of Try.func10 rfl (by decide +kernel) (by kernel_rfl) (by kernel_rfl) (by kernel_rfl), fnOk_of Try.func11 rfl (by decide +kernel) (by kernel_rfl) (by kernel_rfl) (by kernel_rfl), fnOk_of Try.func12 rfl (by decide +kernel) (by kernel_rfl) (by kernel_rfl) (by kernel_rfl), fnOk_of Try.func13 rfl (by decide +kernel) (by kernel_rfl) (by kernel_rfl) (by kernel_rfl), fnOk_of Try.func14 rfl (by decide +kernel) (by kernel_rfl) (by kernel_rfl) (by kernel_rfl), fnOk_of Try.func15 rfl (by decide +kernel) (by kernel_rfl) (by kernel_rfl) (by kernel_rfl), fnOk_of Try.func16 rfl (by decide +kernel) (by kernel_rfl) (by kernel_rfl) (by kernel_rfl), fnOk_of Try.func17 rfl (by decide +kernel) (by kernel_rfl) (by kernel_rfl) (by kernel_rfl), fnOk_of Try.func18 rfl (by decide +kernel) (by kernel_rfl) (by kernel_rfl) (by kernel_rfl), fnOk_of Try.func19 rfl (by decide +kernel) (by kernel_rfl) (by kernel_rfl) (by kernel_rfl), fnOk_of Try.func20 rfl (by decide +kernel) (by kernel_rfl) (by kernel_rfl) (by kernel_rfl), fnOk_of Try.func21 rfl (by decide +kernel) (by kernel_rfl) (by kernel_rfl) (by kernel_rfl), fnOk_of Try.func22 rfl (by decide +kernel) (by kernel_rfl) (by kernel_rfl) (by kernel_rfl), fnOk_of Try.func23 rfl (by decide +kernel) (by kernel_rfl) (by kernel_rfl) (by kernel_rfl), fnOk_of Try.func24 rfl (by decide +kernel) (by kernel_rfl) (by kernel_rfl) (by kernel_rfl), fnOk_of Try.func25 rfl (by decide +kernel) (by kernel_rfl) (by kernel_rfl) (by kernel_rfl), fnOk_of Try.func26 rfl (by decide +kernel) (by kernel_rfl) (by kernel_rfl) (by kernel_rfl), fnOk_of Try.func27 rfl (by decide +kernel) (by kernel_rfl) (by kernel_rfl) (by kernel_rfl), fnOk_of Try.func28 rfl (by decide +kernel) (by kernel_rfl) (by kernel_rfl) (by kernel_rfl), fnOk_of Try.func29 rfl (by decide +kernel) (by kernel_rfl) (by kernel_rfl) (by kernel_rfl), fnOk_of Try.func30 rfl (by decide +kernel) (by kernel_rfl) (by kernel_rfl) (by kernel_rfl), fnOk_of Try.func31 rfl (by decide +kernel) (by kernel_rfl) (by kernel_rfl) (by kernel_rfl), fnOk_of Try.func32 rfl (by decide +kernel) (by kernel_rfl) (by kernel_rfl) (by kernel_rfl), fnOk_of Try.func33 rfl (by decide +kernel) (by kernel_rfl) (by kernel_rfl) (by kernel_rfl), fnOk_of Try.func34 rfl (by decide +kernel) (by kernel_rfl) (by kernel_rfl) (by kernel_rfl), fnOk_of Try.func35 rfl (by decide +kernel) (by kernel_rfl) (by kernel_rfl) (by kernel_rfl), fnOk_of Try.func36 rfl (by decide +kernel) (by kernel_rfl) (by kernel_rfl) (by kernel_rfl), fnOk_of Try.func37 rfl (by decide +kernel) (by kernel_rfl) (by kernel_rfl) (by kernel_rfl), fnOk_of Try.func38 rfl (by decide +kernel) (by kernel_rfl) (by kernel_rfl) (by kernel_rfl), fnOk_of Try.func39 rfl (by decide +kernel) (by kernel_rfl) (by kernel_rfl) (by kernel_rfl), fnOk_of Try.func40 rfl (by decide +kernel) (by kernel_rfl) (by kernel_rfl) (by kernel_rfl), fnOk_of Try.func41 rfl (by decide +kernel) (by kernel_rfl) (by kernel_rfl) (by kernel_rfl), fnOk_of Try.func42 rfl (by decide +kernel) (by kernel_rfl) (by kernel_rfl) (by kernel_rfl), fnOk_of Try.func43 rfl (by decide +kernel) (by kernel_rfl) (by kernel_rfl) (by kernel_rfl), fnOk_of Try.func45 rfl (by decide +kernel) (by kernel_rfl) (by kernel_rfl) (by kernel_rfl), fnOk_of Try.func46 rfl (by decide +kernel) (by kernel_rfl) (by kernel_rfl) (by kernel_rfl), fnOk_of Try.func47 rfl (by decide +kernel) (by kernel_rfl) (by kernel_rfl) (by kernel_rfl), fnOk_of Try.func48 rfl (by decide +kernel) (by kernel_rfl) (by kernel_rfl) (by kernel_rfl), fun _ h => by cases h⟩
theorem agree0 : Agree Try.prog ap0 := agree_of (by kernel_rfl) types funcs
@[simp] theorem ap_pl : ap.pl = true := rfl
@[simp] theorem ap_ext {f : Nat} : ap.ext f = if f = 44 then some overlapsX else none := rfl
attribute [simp] ty1 t1 ty2 t2 ty3 t3 ty4 t4 ty5 t5 ty6 t6 ty8 t8 ty22 t22 ty24 t24 ty26 t26 ty30 t30 ty32 t32 ty37 t37 ty40 t40 ty47 t47 ty50 t50 ty52 t52 ty55 t55 ty57 t57 ty58 t58
end Go.Proofs.Ytpinfljbccjbkaa.T
end
section
/-! The drawn regions, one operation behind the other. Written by wip/ab/abgen.py (an own program). -/
set_option linter.unusedVariables false
set_option maxRecDepth 100000
namespace Go.Proofs.Ytpinfljbccjbkaa.T
open Go Go.Ab
def d3_9 : List DP := [⟨0, ⟨some 27, .move (.tmp 6), 26, none, true⟩, .q, []⟩,
  ⟨1, ⟨some 28, .load 30 (.tmp 7), 30, none, true⟩, .h, [1]⟩,
  ⟨2, ⟨some 29, .move (.tmp 8), 3, none, true⟩, .q, []⟩,
  ⟨3, ⟨some 30, .move (.tmp 8), 3, none, true⟩, .q, []⟩,
  ⟨4, ⟨some 31, .binOp .mul 3 (.const (.int .i64 2)) (.tmp 30) 3, 3, none, true⟩, .q, []⟩,
  ⟨6, ⟨some 33, .move (.tmp 8), 3, none, true⟩, .q, []⟩,
  ⟨7, ⟨some 34, .binOp .add 3 (.const (.int .i64 1)) (.tmp 33) 3, 3, none, true⟩, .q, []⟩,
  ⟨8, ⟨some 35, .move (.tmp 8), 3, none, true⟩, .q, []⟩,
  ⟨9, ⟨some 36, .move (.tmp 8), 3, none, true⟩, .q, []⟩,
  ⟨10, ⟨some 37, .binOp .rem 3 (.tmp 36) (.const (.int .i64 2)) 3, 3, none, true⟩, .q, []⟩,
  ⟨11, ⟨some 38, .binOp .add 3 (.const (.int .i64 1)) (.tmp 37) 3, 3, none, true⟩, .q, []⟩,
  ⟨12, ⟨some 39, .move (.tmp 5), 24, none, true⟩, .q, []⟩,
  ⟨13, ⟨some 40, .call (⟨.value (.func 10), #[.tmp 39, .const (.int .i64 40)], #[24, 3]⟩), 3, none, true⟩, .e, []⟩,
  ⟨5, ⟨some 32, .buildSlice 32 2 #[(0, .tmp 29), (1, .tmp 31)], 32, none, true⟩, .a, []⟩,
  ⟨14, ⟨some 41, .binOp .add 2 (.const (.int .i64 1)) (.tmp 40) 2, 2, none, true⟩, .q, []⟩,
  ⟨15, ⟨some 42, .call (⟨.value (.func 11), #[.tmp 27, .tmp 28, .tmp 32, .tmp 34, .tmp 35, .tmp 38, .tmp 41], #[26, 30, 32, 3, 3, 3, 2]⟩), 4, none, true⟩, .e, []⟩,
  ⟨16, ⟨some 43, .unOp .not 4 (.tmp 42), 4, none, true⟩, .q, []⟩]
theorem dc3_9 : drawC ap (drawOf T.c3 9).toList [0, 1, 2, 3, 4, 6, 7, 8, 9, 10, 11, 12, 13, 5, 14, 15, 16] [[], [], [], [], [3], [2, 3, 4], [], [6], [], [], [9], [9, 10], [], [12], [12, 13], [0, 1, 2, 3, 4, 5, 6, 7, 8, 9, 10, 11, 12, 13, 14], [0, 1, 2, 3, 4, 5, 6, 7, 8, 9, 10, 11, 12, 13, 14, 15]] = some d3_9 := by kernel_rfl
def d4_29 : List DP := [⟨0, ⟨some 155, .load 30 (.tmp 19), 30, none, true⟩, .h, []⟩,
  ⟨1, ⟨some 156, .load 26 (.tmp 14), 26, none, true⟩, .h, []⟩,
  ⟨2, ⟨some 157, .load 3 (.tmp 18), 3, none, true⟩, .h, []⟩,
  ⟨3, ⟨some 158, .indexAddr 26 (.tmp 156) (.tmp 157), 0, none, true⟩, .q, []⟩,
  ⟨4, ⟨some 159, .load 30 (.tmp 158), 30, none, true⟩, .h, []⟩,
  ⟨5, ⟨some 160, .binOp .neq 30 (.tmp 155) (.tmp 159) 30, 4, none, true⟩, .q, []⟩]
theorem dc4_29 : drawC ap (drawOf T.c4 29).toList [0, 1, 2, 3, 4, 5] [[], [], [], [1, 2], [1, 2, 3], [0, 1, 2, 3, 4]] = some d4_29 := by kernel_rfl
def d4_20 : List DP := [⟨0, ⟨some 87, .load 26 (.tmp 14), 26, none, true⟩, .h, []⟩,
  ⟨1, ⟨some 88, .move (.tmp 15), 3, none, true⟩, .q, []⟩,
  ⟨2, ⟨some 89, .binOp .sub 3 (.tmp 88) (.const (.int .i64 1)) 3, 3, none, true⟩, .q, []⟩,
  ⟨3, ⟨some 90, .indexAddr 26 (.tmp 87) (.tmp 89), 0, none, true⟩, .q, []⟩,
  ⟨4, ⟨some 91, .fieldAddr 30 (.tmp 90) 5, 0, none, true⟩, .q, []⟩,
  ⟨5, ⟨some 92, .load 2 (.tmp 91), 2, none, true⟩, .h, []⟩,
  ⟨6, ⟨some 93, .load 26 (.tmp 14), 26, none, true⟩, .h, []⟩,
  ⟨7, ⟨some 94, .move (.tmp 15), 3, none, true⟩, .q, []⟩,
  ⟨8, ⟨some 95, .indexAddr 26 (.tmp 93) (.tmp 94), 0, none, true⟩, .q, []⟩,
  ⟨9, ⟨some 96, .fieldAddr 30 (.tmp 95) 5, 0, none, true⟩, .q, []⟩,
  ⟨10, ⟨some 97, .load 2 (.tmp 96), 2, none, true⟩, .h, []⟩,
  ⟨11, ⟨some 98, .binOp .gtr 2 (.tmp 92) (.tmp 97) 2, 4, none, true⟩, .q, []⟩,
  ⟨12, ⟨some 16, .assign (.tmp 98), 4, none, true⟩, .q, []⟩]
theorem dc4_20 : drawC ap (drawOf T.c4 20).toList [0, 1, 2, 3, 4, 5, 6, 7, 8, 9, 10, 11, 12] [[], [], [1], [0, 1, 2], [0, 1, 2, 3], [0, 1, 2, 3, 4], [], [], [6, 7], [6, 7, 8], [6, 7, 8, 9], [0, 1, 2, 3, 4, 5, 6, 7, 8, 9, 10], [0, 1, 2, 3, 4, 5, 6, 7, 8, 9, 10, 11]] = some d4_20 := by kernel_rfl
def d4_22 : List DP := [⟨0, ⟨some 101, .load 26 (.tmp 14), 26, none, true⟩, .h, []⟩,
  ⟨1, ⟨some 102, .move (.tmp 15), 3, none, true⟩, .q, []⟩,
  ⟨2, ⟨some 103, .binOp .sub 3 (.tmp 102) (.const (.int .i64 1)) 3, 3, none, true⟩, .q, []⟩,
  ⟨3, ⟨some 104, .indexAddr 26 (.tmp 101) (.tmp 103), 0, none, true⟩, .q, []⟩,
  ⟨4, ⟨some 105, .fieldAddr 30 (.tmp 104) 5, 0, none, true⟩, .q, []⟩,
  ⟨5, ⟨some 106, .load 2 (.tmp 105), 2, none, true⟩, .h, []⟩,
  ⟨6, ⟨some 107, .load 26 (.tmp 14), 26, none, true⟩, .h, []⟩,
  ⟨7, ⟨some 108, .move (.tmp 15), 3, none, true⟩, .q, []⟩,
  ⟨8, ⟨some 109, .indexAddr 26 (.tmp 107) (.tmp 108), 0, none, true⟩, .q, []⟩,
  ⟨9, ⟨some 110, .fieldAddr 30 (.tmp 109) 5, 0, none, true⟩, .q, []⟩,
  ⟨10, ⟨some 111, .load 2 (.tmp 110), 2, none, true⟩, .h, []⟩,
  ⟨11, ⟨some 112, .binOp .lss 2 (.tmp 106) (.tmp 111) 2, 4, none, true⟩, .q, []⟩,
  ⟨12, ⟨some 16, .assign (.tmp 112), 4, none, true⟩, .q, []⟩]
theorem dc4_22 : drawC ap (drawOf T.c4 22).toList [0, 1, 2, 3, 4, 5, 6, 7, 8, 9, 10, 11, 12] [[], [], [1], [0, 1, 2], [0, 1, 2, 3], [0, 1, 2, 3, 4], [], [], [6, 7], [6, 7, 8], [6, 7, 8, 9], [0, 1, 2, 3, 4, 5, 6, 7, 8, 9, 10], [0, 1, 2, 3, 4, 5, 6, 7, 8, 9, 10, 11]] = some d4_22 := by kernel_rfl
def d4_23 : List DP := [⟨0, ⟨some 113, .move (.tmp 16), 4, none, true⟩, .q, []⟩,
  ⟨1, ⟨some 114, .unOp .not 4 (.tmp 113), 4, none, true⟩, .q, []⟩,
  ⟨2, ⟨some 115, .move (.tmp 114), 4, none, true⟩, .q, []⟩,
  ⟨3, ⟨some 116, .load 26 (.tmp 14), 26, some (some 115), true⟩, .h, []⟩,
  ⟨4, ⟨some 117, .move (.tmp 15), 3, some (some 115), true⟩, .q, []⟩,
  ⟨5, ⟨some 118, .binOp .sub 3 (.tmp 117) (.const (.int .i64 1)) 3, 3, some (some 115), true⟩, .q, []⟩,
  ⟨6, ⟨some 119, .indexAddr 26 (.tmp 116) (.tmp 118), 0, some (some 115), true⟩, .q, []⟩,
  ⟨7, ⟨some 120, .fieldAddr 30 (.tmp 119) 5, 0, some (some 115), true⟩, .q, []⟩,
  ⟨8, ⟨some 121, .load 2 (.tmp 120), 2, some (some 115), true⟩, .h, []⟩,
  ⟨9, ⟨some 122, .load 26 (.tmp 14), 26, some (some 115), true⟩, .h, []⟩,
  ⟨10, ⟨some 123, .move (.tmp 15), 3, some (some 115), true⟩, .q, []⟩,
  ⟨11, ⟨some 124, .indexAddr 26 (.tmp 122) (.tmp 123), 0, some (some 115), true⟩, .q, []⟩,
  ⟨12, ⟨some 125, .fieldAddr 30 (.tmp 124) 5, 0, some (some 115), true⟩, .q, []⟩,
  ⟨13, ⟨some 126, .load 2 (.tmp 125), 2, some (some 115), true⟩, .h, []⟩,
  ⟨14, ⟨some 127, .binOp .neq 2 (.tmp 121) (.tmp 126) 2, 4, some (some 115), true⟩, .q, []⟩,
  ⟨15, ⟨some 128, .move (.tmp 127), 4, some (some 115), true⟩, .q, []⟩,
  ⟨16, ⟨some 129, .load 26 (.tmp 14), 26, some (some 128), false⟩, .h, []⟩,
  ⟨17, ⟨some 130, .move (.tmp 15), 3, some (some 128), false⟩, .q, []⟩,
  ⟨18, ⟨some 131, .binOp .sub 3 (.tmp 130) (.const (.int .i64 1)) 3, 3, some (some 128), false⟩, .q, []⟩,
  ⟨19, ⟨some 132, .indexAddr 26 (.tmp 129) (.tmp 131), 0, some (some 128), false⟩, .q, []⟩,
  ⟨20, ⟨some 133, .fieldAddr 30 (.tmp 132) 0, 0, some (some 128), false⟩, .q, []⟩,
  ⟨21, ⟨some 134, .load 2 (.tmp 133), 2, some (some 128), false⟩, .h, []⟩,
  ⟨22, ⟨some 135, .load 26 (.tmp 14), 26, some (some 128), false⟩, .h, []⟩,
  ⟨23, ⟨some 136, .move (.tmp 15), 3, some (some 128), false⟩, .q, []⟩,
  ⟨24, ⟨some 137, .indexAddr 26 (.tmp 135) (.tmp 136), 0, some (some 128), false⟩, .q, []⟩,
  ⟨25, ⟨some 138, .fieldAddr 30 (.tmp 137) 0, 0, some (some 128), false⟩, .q, []⟩,
  ⟨26, ⟨some 139, .load 2 (.tmp 138), 2, some (some 128), false⟩, .h, []⟩,
  ⟨27, ⟨some 140, .binOp .geq 2 (.tmp 134) (.tmp 139) 2, 4, some (some 128), false⟩, .q, []⟩,
  ⟨28, ⟨some 141, .pick (.tmp 128) (.const (.bool true)) (.tmp 140), 4, some (some 115), true⟩, .q, []⟩,
  ⟨29, ⟨some 142, .pick (.tmp 115) (.tmp 141) (.const (.bool false)), 4, none, true⟩, .q, []⟩]
theorem dc4_23 : drawC ap (drawOf T.c4 23).toList [0, 1, 2, 3, 4, 5, 6, 7, 8, 9, 10, 11, 12, 13, 14, 15, 16, 17, 18, 19, 20, 21, 22, 23, 24, 25, 26, 27, 28, 29] [[], [0], [0, 1], [0, 1, 2], [0, 1, 2], [0, 1, 2, 4], [0, 1, 2, 3, 4, 5], [0, 1, 2, 3, 4, 5, 6], [0, 1, 2, 3, 4, 5, 6, 7], [0, 1, 2], [0, 1, 2], [0, 1, 2, 9, 10], [0, 1, 2, 9, 10, 11], [0, 1, 2, 9, 10, 11, 12], [0, 1, 2, 3, 4, 5, 6, 7, 8, 9, 10, 11, 12, 13], [0, 1, 2, 3, 4, 5, 6, 7, 8, 9, 10, 11, 12, 13, 14], [0, 1, 2, 3, 4, 5, 6, 7, 8, 9, 10, 11, 12, 13, 14, 15], [0, 1, 2, 3, 4, 5, 6, 7, 8, 9, 10, 11, 12, 13, 14, 15], [0, 1, 2, 3, 4, 5, 6, 7, 8, 9, 10, 11, 12, 13, 14, 15, 17], [0, 1, 2, 3, 4, 5, 6, 7, 8, 9, 10, 11, 12, 13, 14, 15, 16, 17, 18], [0, 1, 2, 3, 4, 5, 6, 7, 8, 9, 10, 11, 12, 13, 14, 15, 16, 17, 18, 19], [0, 1, 2, 3, 4, 5, 6, 7, 8, 9, 10, 11, 12, 13, 14, 15, 16, 17, 18, 19, 20], [0, 1, 2, 3, 4, 5, 6, 7, 8, 9, 10, 11, 12, 13, 14, 15], [0, 1, 2, 3, 4, 5, 6, 7, 8, 9, 10, 11, 12, 13, 14, 15], [0, 1, 2, 3, 4, 5, 6, 7, 8, 9, 10, 11, 12, 13, 14, 15, 22, 23], [0, 1, 2, 3, 4, 5, 6, 7, 8, 9, 10, 11, 12, 13, 14, 15, 22, 23, 24], [0, 1, 2, 3, 4, 5, 6, 7, 8, 9, 10, 11, 12, 13, 14, 15, 22, 23, 24, 25], [0, 1, 2, 3, 4, 5, 6, 7, 8, 9, 10, 11, 12, 13, 14, 15, 16, 17, 18, 19, 20, 21, 22, 23, 24, 25, 26], [0, 1, 2, 3, 4, 5, 6, 7, 8, 9, 10, 11, 12, 13, 14, 15, 16, 17, 18, 19, 20, 21, 22, 23, 24, 25, 26, 27], [0, 1, 2, 3, 4, 5, 6, 7, 8, 9, 10, 11, 12, 13, 14, 15, 16, 17, 18, 19, 20, 21, 22, 23, 24, 25, 26, 27, 28]] = some d4_23 := by kernel_rfl
def d5_24 : List DP := [⟨0, ⟨some 70, .move (.tmp 15), 4, none, true⟩, .q, []⟩,
  ⟨1, ⟨some 71, .move (.tmp 70), 4, none, true⟩, .q, []⟩,
  ⟨2, ⟨some 72, .move (.tmp 1), 32, some (some 71), false⟩, .q, []⟩,
  ⟨3, ⟨some 73, .move (.tmp 16), 3, some (some 71), false⟩, .q, []⟩,
  ⟨4, ⟨some 74, .indexAddr 32 (.tmp 72) (.tmp 73), 0, some (some 71), false⟩, .q, []⟩,
  ⟨5, ⟨some 75, .load 3 (.tmp 74), 3, some (some 71), false⟩, .h, []⟩,
  ⟨6, ⟨some 76, .move (.tmp 6), 26, some (some 71), false⟩, .q, []⟩,
  ⟨7, ⟨some 77, .move (.tmp 14), 3, some (some 71), false⟩, .q, []⟩,
  ⟨8, ⟨some 78, .indexAddr 26 (.tmp 76) (.tmp 77), 0, some (some 71), false⟩, .q, []⟩,
  ⟨9, ⟨some 79, .fieldAddr 30 (.tmp 78) 1, 0, some (some 71), false⟩, .q, []⟩,
  ⟨10, ⟨some 80, .load 3 (.tmp 79), 3, some (some 71), false⟩, .h, []⟩,
  ⟨11, ⟨some 81, .binOp .eql 3 (.tmp 75) (.tmp 80) 3, 4, some (some 71), false⟩, .q, []⟩,
  ⟨12, ⟨some 82, .pick (.tmp 71) (.const (.bool true)) (.tmp 81), 4, none, true⟩, .q, []⟩,
  ⟨13, ⟨some 15, .assign (.tmp 82), 4, none, true⟩, .q, []⟩]
theorem dc5_24 : drawC ap (drawOf T.c5 24).toList [0, 1, 2, 3, 4, 5, 6, 7, 8, 9, 10, 11, 12, 13] [[], [0], [0, 1], [0, 1], [0, 1, 2, 3], [0, 1, 2, 3, 4], [0, 1], [0, 1], [0, 1, 6, 7], [0, 1, 6, 7, 8], [0, 1, 6, 7, 8, 9], [0, 1, 2, 3, 4, 5, 6, 7, 8, 9, 10], [0, 1, 2, 3, 4, 5, 6, 7, 8, 9, 10, 11], [0, 1, 2, 3, 4, 5, 6, 7, 8, 9, 10, 11, 12]] = some d5_24 := by kernel_rfl
def d5_26 : List DP := [⟨0, ⟨some 84, .move (.tmp 13), 3, none, true⟩, .q, []⟩,
  ⟨1, ⟨some 85, .move (.tmp 12), 26, none, true⟩, .q, []⟩,
  ⟨2, ⟨some 86, .call (⟨.builtin .len, #[.tmp 85], #[26]⟩), 3, none, true⟩, .q, []⟩,
  ⟨3, ⟨some 87, .binOp .geq 3 (.tmp 84) (.tmp 86) 3, 4, none, true⟩, .q, []⟩,
  ⟨4, ⟨some 88, .move (.tmp 87), 4, none, true⟩, .q, []⟩,
  ⟨5, ⟨some 89, .move (.tmp 12), 26, some (some 88), false⟩, .q, []⟩,
  ⟨6, ⟨some 90, .move (.tmp 13), 3, some (some 88), false⟩, .q, []⟩,
  ⟨7, ⟨some 91, .indexAddr 26 (.tmp 89) (.tmp 90), 0, some (some 88), false⟩, .q, []⟩,
  ⟨8, ⟨some 92, .load 30 (.tmp 91), 30, some (some 88), false⟩, .h, []⟩,
  ⟨9, ⟨some 93, .move (.tmp 6), 26, some (some 88), false⟩, .q, []⟩,
  ⟨10, ⟨some 94, .move (.tmp 14), 3, some (some 88), false⟩, .q, []⟩,
  ⟨11, ⟨some 95, .indexAddr 26 (.tmp 93) (.tmp 94), 0, some (some 88), false⟩, .q, []⟩,
  ⟨12, ⟨some 96, .load 30 (.tmp 95), 30, some (some 88), false⟩, .h, []⟩,
  ⟨13, ⟨some 97, .binOp .neq 30 (.tmp 92) (.tmp 96) 30, 4, some (some 88), false⟩, .q, []⟩,
  ⟨14, ⟨some 98, .pick (.tmp 88) (.const (.bool true)) (.tmp 97), 4, none, true⟩, .q, []⟩]
theorem dc5_26 : drawC ap (drawOf T.c5 26).toList [0, 1, 2, 3, 4, 5, 6, 7, 8, 9, 10, 11, 12, 13, 14] [[], [], [1], [0, 1, 2], [0, 1, 2, 3], [0, 1, 2, 3, 4], [0, 1, 2, 3, 4], [0, 1, 2, 3, 4, 5, 6], [0, 1, 2, 3, 4, 5, 6, 7], [0, 1, 2, 3, 4], [0, 1, 2, 3, 4], [0, 1, 2, 3, 4, 9, 10], [0, 1, 2, 3, 4, 9, 10, 11], [0, 1, 2, 3, 4, 5, 6, 7, 8, 9, 10, 11, 12], [0, 1, 2, 3, 4, 5, 6, 7, 8, 9, 10, 11, 12, 13]] = some d5_26 := by kernel_rfl
def d6_16 : List DP := [⟨0, ⟨some 40, .move (.tmp 7), 47, none, true⟩, .q, []⟩,
  ⟨1, ⟨some 41, .move (.tmp 8), 3, none, true⟩, .q, []⟩,
  ⟨2, ⟨some 42, .indexAddr 47 (.tmp 40) (.tmp 41), 0, none, true⟩, .q, []⟩,
  ⟨3, ⟨some 43, .fieldAddr 50 (.tmp 42) 1, 0, none, true⟩, .q, []⟩,
  ⟨4, ⟨some 44, .load 2 (.tmp 43), 2, none, true⟩, .h, []⟩,
  ⟨5, ⟨some 45, .binOp .lss 2 (.tmp 44) (.const (.int .i64 0)) 2, 4, none, true⟩, .q, []⟩,
  ⟨6, ⟨some 46, .move (.tmp 45), 4, none, true⟩, .q, []⟩,
  ⟨7, ⟨some 47, .move (.tmp 7), 47, some (some 46), false⟩, .q, []⟩,
  ⟨8, ⟨some 48, .move (.tmp 8), 3, some (some 46), false⟩, .q, []⟩,
  ⟨9, ⟨some 49, .indexAddr 47 (.tmp 47) (.tmp 48), 0, some (some 46), false⟩, .q, []⟩,
  ⟨10, ⟨some 50, .fieldAddr 50 (.tmp 49) 2, 0, some (some 46), false⟩, .q, []⟩,
  ⟨11, ⟨some 51, .load 2 (.tmp 50), 2, some (some 46), false⟩, .h, []⟩,
  ⟨12, ⟨some 52, .binOp .lss 2 (.tmp 51) (.const (.int .i64 0)) 2, 4, some (some 46), false⟩, .q, []⟩,
  ⟨13, ⟨some 53, .pick (.tmp 46) (.const (.bool true)) (.tmp 52), 4, none, true⟩, .q, []⟩,
  ⟨14, ⟨some 54, .move (.tmp 53), 4, none, true⟩, .q, []⟩,
  ⟨15, ⟨some 55, .move (.tmp 7), 47, some (some 54), false⟩, .q, []⟩,
  ⟨16, ⟨some 56, .move (.tmp 8), 3, some (some 54), false⟩, .q, []⟩,
  ⟨17, ⟨some 57, .indexAddr 47 (.tmp 55) (.tmp 56), 0, some (some 54), false⟩, .q, []⟩,
  ⟨18, ⟨some 58, .fieldAddr 50 (.tmp 57) 1, 0, some (some 54), false⟩, .q, []⟩,
  ⟨19, ⟨some 59, .load 2 (.tmp 58), 2, some (some 54), false⟩, .h, []⟩,
  ⟨20, ⟨some 60, .binOp .eql 2 (.tmp 59) (.const (.int .i64 0)) 2, 4, some (some 54), false⟩, .q, []⟩,
  ⟨21, ⟨some 61, .move (.tmp 60), 4, some (some 54), false⟩, .q, []⟩,
  ⟨22, ⟨some 62, .move (.tmp 7), 47, some (some 61), true⟩, .q, []⟩,
  ⟨23, ⟨some 63, .move (.tmp 8), 3, some (some 61), true⟩, .q, []⟩,
  ⟨24, ⟨some 64, .indexAddr 47 (.tmp 62) (.tmp 63), 0, some (some 61), true⟩, .q, []⟩,
  ⟨25, ⟨some 65, .fieldAddr 50 (.tmp 64) 2, 0, some (some 61), true⟩, .q, []⟩,
  ⟨26, ⟨some 66, .load 2 (.tmp 65), 2, some (some 61), true⟩, .h, []⟩,
  ⟨27, ⟨some 67, .binOp .eql 2 (.tmp 66) (.const (.int .i64 0)) 2, 4, some (some 61), true⟩, .q, []⟩,
  ⟨28, ⟨some 68, .pick (.tmp 61) (.tmp 67) (.const (.bool false)), 4, some (some 54), false⟩, .q, []⟩,
  ⟨29, ⟨some 69, .pick (.tmp 54) (.const (.bool true)) (.tmp 68), 4, none, true⟩, .q, []⟩,
  ⟨30, ⟨some 70, .move (.tmp 69), 4, none, true⟩, .q, []⟩,
  ⟨31, ⟨some 71, .move (.tmp 8), 3, some (some 70), false⟩, .q, []⟩,
  ⟨32, ⟨some 72, .binOp .gtr 3 (.tmp 71) (.const (.int .i64 0)) 3, 4, some (some 70), false⟩, .q, []⟩,
  ⟨33, ⟨some 73, .move (.tmp 72), 4, some (some 70), false⟩, .q, []⟩,
  ⟨34, ⟨some 74, .move (.tmp 7), 47, some (some 73), true⟩, .q, []⟩,
  ⟨35, ⟨some 75, .move (.tmp 8), 3, some (some 73), true⟩, .q, []⟩,
  ⟨36, ⟨some 76, .indexAddr 47 (.tmp 74) (.tmp 75), 0, some (some 73), true⟩, .q, []⟩,
  ⟨37, ⟨some 77, .fieldAddr 50 (.tmp 76) 0, 0, some (some 73), true⟩, .q, []⟩,
  ⟨38, ⟨some 78, .load 3 (.tmp 77), 3, some (some 73), true⟩, .h, []⟩,
  ⟨39, ⟨some 79, .move (.tmp 7), 47, some (some 73), true⟩, .q, []⟩,
  ⟨40, ⟨some 80, .move (.tmp 8), 3, some (some 73), true⟩, .q, []⟩,
  ⟨41, ⟨some 81, .binOp .sub 3 (.tmp 80) (.const (.int .i64 1)) 3, 3, some (some 73), true⟩, .q, []⟩,
  ⟨42, ⟨some 82, .indexAddr 47 (.tmp 79) (.tmp 81), 0, some (some 73), true⟩, .q, []⟩,
  ⟨43, ⟨some 83, .fieldAddr 50 (.tmp 82) 0, 0, some (some 73), true⟩, .q, []⟩,
  ⟨44, ⟨some 84, .load 3 (.tmp 83), 3, some (some 73), true⟩, .h, []⟩,
  ⟨45, ⟨some 85, .binOp .leq 3 (.tmp 78) (.tmp 84) 3, 4, some (some 73), true⟩, .q, []⟩,
  ⟨46, ⟨some 86, .pick (.tmp 73) (.tmp 85) (.const (.bool false)), 4, some (some 70), false⟩, .q, []⟩,
  ⟨47, ⟨some 87, .pick (.tmp 70) (.const (.bool true)) (.tmp 86), 4, none, true⟩, .q, []⟩]
theorem dc6_16 : drawC ap (drawOf T.c6 16).toList [0, 1, 2, 3, 4, 5, 6, 7, 8, 9, 10, 11, 12, 13, 14, 15, 16, 17, 18, 19, 20, 21, 22, 23, 24, 25, 26, 27, 28, 29, 30, 31, 32, 33, 34, 35, 36, 37, 38, 39, 40, 41, 42, 43, 44, 45, 46, 47] [[], [], [0, 1], [0, 1, 2], [0, 1, 2, 3], [0, 1, 2, 3, 4], [0, 1, 2, 3, 4, 5], [0, 1, 2, 3, 4, 5, 6], [0, 1, 2, 3, 4, 5, 6], [0, 1, 2, 3, 4, 5, 6, 7, 8], [0, 1, 2, 3, 4, 5, 6, 7, 8, 9], [0, 1, 2, 3, 4, 5, 6, 7, 8, 9, 10], [0, 1, 2, 3, 4, 5, 6, 7, 8, 9, 10, 11], [0, 1, 2, 3, 4, 5, 6, 7, 8, 9, 10, 11, 12], [0, 1, 2, 3, 4, 5, 6, 7, 8, 9, 10, 11, 12, 13], [0, 1, 2, 3, 4, 5, 6, 7, 8, 9, 10, 11, 12, 13, 14], [0, 1, 2, 3, 4, 5, 6, 7, 8, 9, 10, 11, 12, 13, 14], [0, 1, 2, 3, 4, 5, 6, 7, 8, 9, 10, 11, 12, 13, 14, 15, 16], [0, 1, 2, 3, 4, 5, 6, 7, 8, 9, 10, 11, 12, 13, 14, 15, 16, 17], [0, 1, 2, 3, 4, 5, 6, 7, 8, 9, 10, 11, 12, 13, 14, 15, 16, 17, 18], [0, 1, 2, 3, 4, 5, 6, 7, 8, 9, 10, 11, 12, 13, 14, 15, 16, 17, 18, 19], [0, 1, 2, 3, 4, 5, 6, 7, 8, 9, 10, 11, 12, 13, 14, 15, 16, 17, 18, 19, 20], [0, 1, 2, 3, 4, 5, 6, 7, 8, 9, 10, 11, 12, 13, 14, 15, 16, 17, 18, 19, 20, 21], [0, 1, 2, 3, 4, 5, 6, 7, 8, 9, 10, 11, 12, 13, 14, 15, 16, 17, 18, 19, 20, 21], [0, 1, 2, 3, 4, 5, 6, 7, 8, 9, 10, 11, 12, 13, 14, 15, 16, 17, 18, 19, 20, 21, 22, 23], [0, 1, 2, 3, 4, 5, 6, 7, 8, 9, 10, 11, 12, 13, 14, 15, 16, 17, 18, 19, 20, 21, 22, 23, 24], [0, 1, 2, 3, 4, 5, 6, 7, 8, 9, 10, 11, 12, 13, 14, 15, 16, 17, 18, 19, 20, 21, 22, 23, 24, 25], [0, 1, 2, 3, 4, 5, 6, 7, 8, 9, 10, 11, 12, 13, 14, 15, 16, 17, 18, 19, 20, 21, 22, 23, 24, 25, 26], [0, 1, 2, 3, 4, 5, 6, 7, 8, 9, 10, 11, 12, 13, 14, 15, 16, 17, 18, 19, 20, 21, 22, 23, 24, 25, 26, 27], [0, 1, 2, 3, 4, 5, 6, 7, 8, 9, 10, 11, 12, 13, 14, 15, 16, 17, 18, 19, 20, 21, 22, 23, 24, 25, 26, 27, 28], [0, 1, 2, 3, 4, 5, 6, 7, 8, 9, 10, 11, 12, 13, 14, 15, 16, 17, 18, 19, 20, 21, 22, 23, 24, 25, 26, 27, 28, 29], [0, 1, 2, 3, 4, 5, 6, 7, 8, 9, 10, 11, 12, 13, 14, 15, 16, 17, 18, 19, 20, 21, 22, 23, 24, 25, 26, 27, 28, 29, 30], [0, 1, 2, 3, 4, 5, 6, 7, 8, 9, 10, 11, 12, 13, 14, 15, 16, 17, 18, 19, 20, 21, 22, 23, 24, 25, 26, 27, 28, 29, 30, 31], [0, 1, 2, 3, 4, 5, 6, 7, 8, 9, 10, 11, 12, 13, 14, 15, 16, 17, 18, 19, 20, 21, 22, 23, 24, 25, 26, 27, 28, 29, 30, 31, 32], [0, 1, 2, 3, 4, 5, 6, 7, 8, 9, 10, 11, 12, 13, 14, 15, 16, 17, 18, 19, 20, 21, 22, 23, 24, 25, 26, 27, 28, 29, 30, 31, 32, 33], [0, 1, 2, 3, 4, 5, 6, 7, 8, 9, 10, 11, 12, 13, 14, 15, 16, 17, 18, 19, 20, 21, 22, 23, 24, 25, 26, 27, 28, 29, 30, 31, 32, 33], [0, 1, 2, 3, 4, 5, 6, 7, 8, 9, 10, 11, 12, 13, 14, 15, 16, 17, 18, 19, 20, 21, 22, 23, 24, 25, 26, 27, 28, 29, 30, 31, 32, 33, 34, 35], [0, 1, 2, 3, 4, 5, 6, 7, 8, 9, 10, 11, 12, 13, 14, 15, 16, 17, 18, 19, 20, 21, 22, 23, 24, 25, 26, 27, 28, 29, 30, 31, 32, 33, 34, 35, 36], [0, 1, 2, 3, 4, 5, 6, 7, 8, 9, 10, 11, 12, 13, 14, 15, 16, 17, 18, 19, 20, 21, 22, 23, 24, 25, 26, 27, 28, 29, 30, 31, 32, 33, 34, 35, 36, 37], [0, 1, 2, 3, 4, 5, 6, 7, 8, 9, 10, 11, 12, 13, 14, 15, 16, 17, 18, 19, 20, 21, 22, 23, 24, 25, 26, 27, 28, 29, 30, 31, 32, 33], [0, 1, 2, 3, 4, 5, 6, 7, 8, 9, 10, 11, 12, 13, 14, 15, 16, 17, 18, 19, 20, 21, 22, 23, 24, 25, 26, 27, 28, 29, 30, 31, 32, 33], [0, 1, 2, 3, 4, 5, 6, 7, 8, 9, 10, 11, 12, 13, 14, 15, 16, 17, 18, 19, 20, 21, 22, 23, 24, 25, 26, 27, 28, 29, 30, 31, 32, 33, 40], [0, 1, 2, 3, 4, 5, 6, 7, 8, 9, 10, 11, 12, 13, 14, 15, 16, 17, 18, 19, 20, 21, 22, 23, 24, 25, 26, 27, 28, 29, 30, 31, 32, 33, 39, 40, 41], [0, 1, 2, 3, 4, 5, 6, 7, 8, 9, 10, 11, 12, 13, 14, 15, 16, 17, 18, 19, 20, 21, 22, 23, 24, 25, 26, 27, 28, 29, 30, 31, 32, 33, 39, 40, 41, 42], [0, 1, 2, 3, 4, 5, 6, 7, 8, 9, 10, 11, 12, 13, 14, 15, 16, 17, 18, 19, 20, 21, 22, 23, 24, 25, 26, 27, 28, 29, 30, 31, 32, 33, 39, 40, 41, 42, 43], [0, 1, 2, 3, 4, 5, 6, 7, 8, 9, 10, 11, 12, 13, 14, 15, 16, 17, 18, 19, 20, 21, 22, 23, 24, 25, 26, 27, 28, 29, 30, 31, 32, 33, 34, 35, 36, 37, 38, 39, 40, 41, 42, 43, 44], [0, 1, 2, 3, 4, 5, 6, 7, 8, 9, 10, 11, 12, 13, 14, 15, 16, 17, 18, 19, 20, 21, 22, 23, 24, 25, 26, 27, 28, 29, 30, 31, 32, 33, 34, 35, 36, 37, 38, 39, 40, 41, 42, 43, 44, 45], [0, 1, 2, 3, 4, 5, 6, 7, 8, 9, 10, 11, 12, 13, 14, 15, 16, 17, 18, 19, 20, 21, 22, 23, 24, 25, 26, 27, 28, 29, 30, 31, 32, 33, 34, 35, 36, 37, 38, 39, 40, 41, 42, 43, 44, 45, 46]] = some d6_16 := by kernel_rfl
def d6_18 : List DP := [⟨0, ⟨some 88, .move (.tmp 4), 2, none, true⟩, .q, []⟩,
  ⟨1, ⟨some 89, .move (.tmp 7), 47, none, true⟩, .q, []⟩,
  ⟨2, ⟨some 90, .move (.tmp 8), 3, none, true⟩, .q, []⟩,
  ⟨3, ⟨some 91, .indexAddr 47 (.tmp 89) (.tmp 90), 0, none, true⟩, .q, []⟩,
  ⟨4, ⟨some 92, .fieldAddr 50 (.tmp 91) 1, 0, none, true⟩, .q, []⟩,
  ⟨5, ⟨some 93, .load 2 (.tmp 92), 2, none, true⟩, .h, []⟩,
  ⟨6, ⟨some 94, .move (.tmp 7), 47, none, true⟩, .q, []⟩,
  ⟨7, ⟨some 95, .move (.tmp 8), 3, none, true⟩, .q, []⟩,
  ⟨8, ⟨some 96, .indexAddr 47 (.tmp 94) (.tmp 95), 0, none, true⟩, .q, []⟩,
  ⟨9, ⟨some 97, .fieldAddr 50 (.tmp 96) 2, 0, none, true⟩, .q, []⟩,
  ⟨10, ⟨some 98, .load 2 (.tmp 97), 2, none, true⟩, .h, []⟩,
  ⟨11, ⟨some 99, .binOp .add 2 (.tmp 93) (.tmp 98) 2, 2, none, true⟩, .q, []⟩,
  ⟨12, ⟨some 100, .binOp .sub 2 (.tmp 88) (.tmp 99) 2, 2, none, true⟩, .q, []⟩,
  ⟨13, ⟨some 4, .assign (.tmp 100), 2, none, true⟩, .q, []⟩]
theorem dc6_18 : drawC ap (drawOf T.c6 18).toList [0, 1, 2, 3, 4, 5, 6, 7, 8, 9, 10, 11, 12, 13] [[], [], [], [1, 2], [1, 2, 3], [1, 2, 3, 4], [], [], [6, 7], [6, 7, 8], [6, 7, 8, 9], [1, 2, 3, 4, 5, 6, 7, 8, 9, 10], [0, 1, 2, 3, 4, 5, 6, 7, 8, 9, 10, 11], [0, 1, 2, 3, 4, 5, 6, 7, 8, 9, 10, 11, 12]] = some d6_18 := by kernel_rfl
def d7_13 : List DP := [⟨0, ⟨some 49, .move (.tmp 4), 40, none, true⟩, .q, []⟩,
  ⟨1, ⟨some 50, .binOp .eql 40 (.tmp 49) (.const (.int .i64 0)) 40, 4, none, true⟩, .q, []⟩,
  ⟨2, ⟨some 51, .move (.tmp 50), 4, none, true⟩, .q, []⟩,
  ⟨3, ⟨some 52, .move (.tmp 6), 40, some (some 51), true⟩, .q, []⟩,
  ⟨4, ⟨some 53, .binOp .eql 40 (.tmp 52) (.const (.int .i64 0)) 40, 4, some (some 51), true⟩, .q, []⟩,
  ⟨5, ⟨some 54, .pick (.tmp 51) (.tmp 53) (.const (.bool false)), 4, none, true⟩, .q, []⟩,
  ⟨6, ⟨some 55, .move (.tmp 54), 4, none, true⟩, .q, []⟩,
  ⟨7, ⟨some 56, .move (.tmp 8), 40, some (some 55), true⟩, .q, []⟩,
  ⟨8, ⟨some 57, .binOp .eql 40 (.tmp 56) (.const (.int .i64 0)) 40, 4, some (some 55), true⟩, .q, []⟩,
  ⟨9, ⟨some 58, .pick (.tmp 55) (.tmp 57) (.const (.bool false)), 4, none, true⟩, .q, []⟩,
  ⟨10, ⟨some 59, .move (.tmp 58), 4, none, true⟩, .q, []⟩,
  ⟨11, ⟨some 60, .move (.tmp 7), 26, some (some 59), true⟩, .q, []⟩,
  ⟨12, ⟨some 61, .call (⟨.builtin .len, #[.tmp 60], #[26]⟩), 3, some (some 59), true⟩, .q, []⟩,
  ⟨13, ⟨some 62, .binOp .eql 3 (.tmp 61) (.const (.int .i64 1)) 3, 4, some (some 59), true⟩, .q, []⟩,
  ⟨14, ⟨some 63, .pick (.tmp 59) (.tmp 62) (.const (.bool false)), 4, none, true⟩, .q, []⟩,
  ⟨15, ⟨some 64, .move (.tmp 63), 4, none, true⟩, .q, []⟩,
  ⟨16, ⟨some 65, .move (.tmp 7), 26, some (some 64), true⟩, .q, []⟩,
  ⟨17, ⟨some 66, .indexAddr 26 (.tmp 65) (.const (.int .i64 0)), 0, some (some 64), true⟩, .q, []⟩,
  ⟨18, ⟨some 67, .load 30 (.tmp 66), 30, some (some 64), true⟩, .h, [0]⟩,
  ⟨19, ⟨some 68, .load 30 (.tmp 2), 30, some (some 64), true⟩, .h, [0]⟩,
  ⟨20, ⟨some 69, .binOp .eql 30 (.tmp 67) (.tmp 68) 30, 4, some (some 64), true⟩, .q, []⟩,
  ⟨21, ⟨some 70, .pick (.tmp 64) (.tmp 69) (.const (.bool false)), 4, none, true⟩, .q, []⟩,
  ⟨22, ⟨some 71, .move (.tmp 70), 4, none, true⟩, .q, []⟩,
  ⟨24, ⟨some 73, .buildSlice 52 2 #[(0, .const (.int .i64 2)), (1, .const (.int .i64 1))], 52, some (some 71), true⟩, .a, []⟩,
  ⟨23, ⟨some 72, .load 52 (.tmp 9), 52, some (some 71), true⟩, .h, []⟩,
  ⟨25, ⟨some 74, .call (⟨.value (.func 20), #[.tmp 72, .tmp 73], #[52, 52]⟩), 4, some (some 71), true⟩, .e, []⟩,
  ⟨26, ⟨some 75, .pick (.tmp 71) (.tmp 74) (.const (.bool false)), 4, none, true⟩, .q, []⟩,
  ⟨27, ⟨some 76, .move (.tmp 75), 4, none, true⟩, .q, []⟩,
  ⟨28, ⟨some 77, .move (.tmp 13), 40, some (some 76), true⟩, .q, []⟩,
  ⟨29, ⟨some 78, .binOp .eql 40 (.tmp 77) (.const (.int .i64 1)) 40, 4, some (some 76), true⟩, .q, []⟩,
  ⟨30, ⟨some 79, .pick (.tmp 76) (.tmp 78) (.const (.bool false)), 4, none, true⟩, .q, []⟩,
  ⟨31, ⟨some 80, .move (.tmp 79), 4, none, true⟩, .q, []⟩,
  ⟨32, ⟨some 81, .move (.tmp 5), 26, some (some 80), true⟩, .q, []⟩,
  ⟨34, ⟨some 83, .build 50 #[(1, .const (.int .i64 6))], 50, some (some 80), true⟩, .q, []⟩,
  ⟨33, ⟨some 82, .call (⟨.value (.func 19), #[.tmp 81, .const (.int .i64 2)], #[26, 3]⟩), 47, some (some 80), true⟩, .e, []⟩,
  ⟨35, ⟨some 84, .buildSlice 47 1 #[(0, .tmp 83)], 47, some (some 80), true⟩, .a, []⟩,
  ⟨36, ⟨some 85, .call (⟨.value (.func 21), #[.tmp 82, .tmp 84], #[47, 47]⟩), 4, some (some 80), true⟩, .e, []⟩,
  ⟨37, ⟨some 86, .pick (.tmp 80) (.tmp 85) (.const (.bool false)), 4, none, true⟩, .q, []⟩,
  ⟨38, ⟨some 87, .move (.tmp 86), 4, none, true⟩, .q, []⟩,
  ⟨40, ⟨some 89, .buildSlice 32 1 #[(0, .const (.int .i64 2))], 32, some (some 87), true⟩, .a, []⟩,
  ⟨39, ⟨some 88, .move (.tmp 5), 26, some (some 87), true⟩, .q, []⟩,
  ⟨41, ⟨some 90, .call (⟨.value (.func 18), #[.tmp 88, .tmp 89], #[26, 32]⟩), 26, some (some 87), true⟩, .e, []⟩,
  ⟨42, ⟨some 91, .call (⟨.builtin .len, #[.tmp 90], #[26]⟩), 3, some (some 87), true⟩, .q, []⟩,
  ⟨43, ⟨some 92, .binOp .eql 3 (.tmp 91) (.const (.int .i64 1)) 3, 4, some (some 87), true⟩, .q, []⟩,
  ⟨44, ⟨some 93, .pick (.tmp 87) (.tmp 92) (.const (.bool false)), 4, none, true⟩, .q, []⟩,
  ⟨45, ⟨some 94, .move (.tmp 93), 4, none, true⟩, .q, []⟩,
  ⟨46, ⟨some 95, .move (.tmp 5), 26, some (some 94), true⟩, .q, []⟩,
  ⟨47, ⟨some 96, .call (⟨.value (.func 12), #[.tmp 95], #[26]⟩), 4, some (some 94), true⟩, .e, []⟩,
  ⟨48, ⟨some 97, .pick (.tmp 94) (.tmp 96) (.const (.bool false)), 4, none, true⟩, .q, []⟩,
  ⟨49, ⟨some 98, .move (.tmp 97), 4, none, true⟩, .q, []⟩,
  ⟨50, ⟨some 99, .load 30 (.tmp 1), 30, some (some 98), true⟩, .h, []⟩,
  ⟨51, ⟨some 100, .call (⟨.value (.func 22), #[.tmp 99], #[30]⟩), 4, some (some 98), true⟩, .e, []⟩,
  ⟨52, ⟨some 101, .pick (.tmp 98) (.tmp 100) (.const (.bool false)), 4, none, true⟩, .q, []⟩,
  ⟨53, ⟨some 0, .assign (.tmp 101), 4, none, true⟩, .q, []⟩]
theorem dc7_13 : drawC ap (drawOf T.c7 13).toList [0, 1, 2, 3, 4, 5, 6, 7, 8, 9, 10, 11, 12, 13, 14, 15, 16, 17, 18, 19, 20, 21, 22, 24, 23, 25, 26, 27, 28, 29, 30, 31, 32, 34, 33, 35, 36, 37, 38, 40, 39, 41, 42, 43, 44, 45, 46, 47, 48, 49, 50, 51, 52, 53] [[], [0], [0, 1], [0, 1, 2], [0, 1, 2, 3], [0, 1, 2, 3, 4], [0, 1, 2, 3, 4, 5], [0, 1, 2, 3, 4, 5, 6], [0, 1, 2, 3, 4, 5, 6, 7], [0, 1, 2, 3, 4, 5, 6, 7, 8], [0, 1, 2, 3, 4, 5, 6, 7, 8, 9], [0, 1, 2, 3, 4, 5, 6, 7, 8, 9, 10], [0, 1, 2, 3, 4, 5, 6, 7, 8, 9, 10, 11], [0, 1, 2, 3, 4, 5, 6, 7, 8, 9, 10, 11, 12], [0, 1, 2, 3, 4, 5, 6, 7, 8, 9, 10, 11, 12, 13], [0, 1, 2, 3, 4, 5, 6, 7, 8, 9, 10, 11, 12, 13, 14], [0, 1, 2, 3, 4, 5, 6, 7, 8, 9, 10, 11, 12, 13, 14, 15], [0, 1, 2, 3, 4, 5, 6, 7, 8, 9, 10, 11, 12, 13, 14, 15, 16], [0, 1, 2, 3, 4, 5, 6, 7, 8, 9, 10, 11, 12, 13, 14, 15, 16, 17], [0, 1, 2, 3, 4, 5, 6, 7, 8, 9, 10, 11, 12, 13, 14, 15], [0, 1, 2, 3, 4, 5, 6, 7, 8, 9, 10, 11, 12, 13, 14, 15, 16, 17, 18, 19], [0, 1, 2, 3, 4, 5, 6, 7, 8, 9, 10, 11, 12, 13, 14, 15, 16, 17, 18, 19, 20], [0, 1, 2, 3, 4, 5, 6, 7, 8, 9, 10, 11, 12, 13, 14, 15, 16, 17, 18, 19, 20, 21], [0, 1, 2, 3, 4, 5, 6, 7, 8, 9, 10, 11, 12, 13, 14, 15, 16, 17, 18, 19, 20, 21, 22], [0, 1, 2, 3, 4, 5, 6, 7, 8, 9, 10, 11, 12, 13, 14, 15, 16, 17, 18, 19, 20, 21, 22], [0, 1, 2, 3, 4, 5, 6, 7, 8, 9, 10, 11, 12, 13, 14, 15, 16, 17, 18, 19, 20, 21, 22, 23, 24], [0, 1, 2, 3, 4, 5, 6, 7, 8, 9, 10, 11, 12, 13, 14, 15, 16, 17, 18, 19, 20, 21, 22, 23, 24, 25], [0, 1, 2, 3, 4, 5, 6, 7, 8, 9, 10, 11, 12, 13, 14, 15, 16, 17, 18, 19, 20, 21, 22, 23, 24, 25, 26], [0, 1, 2, 3, 4, 5, 6, 7, 8, 9, 10, 11, 12, 13, 14, 15, 16, 17, 18, 19, 20, 21, 22, 23, 24, 25, 26, 27], [0, 1, 2, 3, 4, 5, 6, 7, 8, 9, 10, 11, 12, 13, 14, 15, 16, 17, 18, 19, 20, 21, 22, 23, 24, 25, 26, 27, 28], [0, 1, 2, 3, 4, 5, 6, 7, 8, 9, 10, 11, 12, 13, 14, 15, 16, 17, 18, 19, 20, 21, 22, 23, 24, 25, 26, 27, 28, 29], [0, 1, 2, 3, 4, 5, 6, 7, 8, 9, 10, 11, 12, 13, 14, 15, 16, 17, 18, 19, 20, 21, 22, 23, 24, 25, 26, 27, 28, 29, 30], [0, 1, 2, 3, 4, 5, 6, 7, 8, 9, 10, 11, 12, 13, 14, 15, 16, 17, 18, 19, 20, 21, 22, 23, 24, 25, 26, 27, 28, 29, 30, 31], [0, 1, 2, 3, 4, 5, 6, 7, 8, 9, 10, 11, 12, 13, 14, 15, 16, 17, 18, 19, 20, 21, 22, 23, 24, 25, 26, 27, 28, 29, 30, 31, 32], [0, 1, 2, 3, 4, 5, 6, 7, 8, 9, 10, 11, 12, 13, 14, 15, 16, 17, 18, 19, 20, 21, 22, 23, 24, 25, 26, 27, 28, 29, 30, 31], [0, 1, 2, 3, 4, 5, 6, 7, 8, 9, 10, 11, 12, 13, 14, 15, 16, 17, 18, 19, 20, 21, 22, 23, 24, 25, 26, 27, 28, 29, 30, 31, 34], [0, 1, 2, 3, 4, 5, 6, 7, 8, 9, 10, 11, 12, 13, 14, 15, 16, 17, 18, 19, 20, 21, 22, 23, 24, 25, 26, 27, 28, 29, 30, 31, 32, 33, 34, 35], [0, 1, 2, 3, 4, 5, 6, 7, 8, 9, 10, 11, 12, 13, 14, 15, 16, 17, 18, 19, 20, 21, 22, 23, 24, 25, 26, 27, 28, 29, 30, 31, 32, 33, 34, 35, 36], [0, 1, 2, 3, 4, 5, 6, 7, 8, 9, 10, 11, 12, 13, 14, 15, 16, 17, 18, 19, 20, 21, 22, 23, 24, 25, 26, 27, 28, 29, 30, 31, 32, 33, 34, 35, 36, 37], [0, 1, 2, 3, 4, 5, 6, 7, 8, 9, 10, 11, 12, 13, 14, 15, 16, 17, 18, 19, 20, 21, 22, 23, 24, 25, 26, 27, 28, 29, 30, 31, 32, 33, 34, 35, 36, 37, 38], [0, 1, 2, 3, 4, 5, 6, 7, 8, 9, 10, 11, 12, 13, 14, 15, 16, 17, 18, 19, 20, 21, 22, 23, 24, 25, 26, 27, 28, 29, 30, 31, 32, 33, 34, 35, 36, 37, 38], [0, 1, 2, 3, 4, 5, 6, 7, 8, 9, 10, 11, 12, 13, 14, 15, 16, 17, 18, 19, 20, 21, 22, 23, 24, 25, 26, 27, 28, 29, 30, 31, 32, 33, 34, 35, 36, 37, 38, 39, 40], [0, 1, 2, 3, 4, 5, 6, 7, 8, 9, 10, 11, 12, 13, 14, 15, 16, 17, 18, 19, 20, 21, 22, 23, 24, 25, 26, 27, 28, 29, 30, 31, 32, 33, 34, 35, 36, 37, 38, 39, 40, 41], [0, 1, 2, 3, 4, 5, 6, 7, 8, 9, 10, 11, 12, 13, 14, 15, 16, 17, 18, 19, 20, 21, 22, 23, 24, 25, 26, 27, 28, 29, 30, 31, 32, 33, 34, 35, 36, 37, 38, 39, 40, 41, 42], [0, 1, 2, 3, 4, 5, 6, 7, 8, 9, 10, 11, 12, 13, 14, 15, 16, 17, 18, 19, 20, 21, 22, 23, 24, 25, 26, 27, 28, 29, 30, 31, 32, 33, 34, 35, 36, 37, 38, 39, 40, 41, 42, 43], [0, 1, 2, 3, 4, 5, 6, 7, 8, 9, 10, 11, 12, 13, 14, 15, 16, 17, 18, 19, 20, 21, 22, 23, 24, 25, 26, 27, 28, 29, 30, 31, 32, 33, 34, 35, 36, 37, 38, 39, 40, 41, 42, 43, 44], [0, 1, 2, 3, 4, 5, 6, 7, 8, 9, 10, 11, 12, 13, 14, 15, 16, 17, 18, 19, 20, 21, 22, 23, 24, 25, 26, 27, 28, 29, 30, 31, 32, 33, 34, 35, 36, 37, 38, 39, 40, 41, 42, 43, 44, 45], [0, 1, 2, 3, 4, 5, 6, 7, 8, 9, 10, 11, 12, 13, 14, 15, 16, 17, 18, 19, 20, 21, 22, 23, 24, 25, 26, 27, 28, 29, 30, 31, 32, 33, 34, 35, 36, 37, 38, 39, 40, 41, 42, 43, 44, 45, 46], [0, 1, 2, 3, 4, 5, 6, 7, 8, 9, 10, 11, 12, 13, 14, 15, 16, 17, 18, 19, 20, 21, 22, 23, 24, 25, 26, 27, 28, 29, 30, 31, 32, 33, 34, 35, 36, 37, 38, 39, 40, 41, 42, 43, 44, 45, 46, 47], [0, 1, 2, 3, 4, 5, 6, 7, 8, 9, 10, 11, 12, 13, 14, 15, 16, 17, 18, 19, 20, 21, 22, 23, 24, 25, 26, 27, 28, 29, 30, 31, 32, 33, 34, 35, 36, 37, 38, 39, 40, 41, 42, 43, 44, 45, 46, 47, 48], [0, 1, 2, 3, 4, 5, 6, 7, 8, 9, 10, 11, 12, 13, 14, 15, 16, 17, 18, 19, 20, 21, 22, 23, 24, 25, 26, 27, 28, 29, 30, 31, 32, 33, 34, 35, 36, 37, 38, 39, 40, 41, 42, 43, 44, 45, 46, 47, 48, 49], [0, 1, 2, 3, 4, 5, 6, 7, 8, 9, 10, 11, 12, 13, 14, 15, 16, 17, 18, 19, 20, 21, 22, 23, 24, 25, 26, 27, 28, 29, 30, 31, 32, 33, 34, 35, 36, 37, 38, 39, 40, 41, 42, 43, 44, 45, 46, 47, 48, 49, 50], [0, 1, 2, 3, 4, 5, 6, 7, 8, 9, 10, 11, 12, 13, 14, 15, 16, 17, 18, 19, 20, 21, 22, 23, 24, 25, 26, 27, 28, 29, 30, 31, 32, 33, 34, 35, 36, 37, 38, 39, 40, 41, 42, 43, 44, 45, 46, 47, 48, 49, 50, 51], [0, 1, 2, 3, 4, 5, 6, 7, 8, 9, 10, 11, 12, 13, 14, 15, 16, 17, 18, 19, 20, 21, 22, 23, 24, 25, 26, 27, 28, 29, 30, 31, 32, 33, 34, 35, 36, 37, 38, 39, 40, 41, 42, 43, 44, 45, 46, 47, 48, 49, 50, 51, 52]] = some d7_13 := by kernel_rfl
def d11_5 : List DP := [⟨0, ⟨some 49, .move (.tmp 16), 40, none, true⟩, .q, []⟩,
  ⟨1, ⟨some 50, .move (.tmp 18), 40, none, true⟩, .q, []⟩,
  ⟨2, ⟨some 51, .binOp .eql 40 (.tmp 49) (.tmp 50) 40, 4, none, true⟩, .q, []⟩,
  ⟨3, ⟨some 52, .move (.tmp 51), 4, none, true⟩, .q, []⟩,
  ⟨4, ⟨some 53, .move (.tmp 20), 40, some (some 52), true⟩, .q, []⟩,
  ⟨5, ⟨some 54, .move (.tmp 22), 40, some (some 52), true⟩, .q, []⟩,
  ⟨6, ⟨some 55, .binOp .eql 40 (.tmp 53) (.tmp 54) 40, 4, some (some 52), true⟩, .q, []⟩,
  ⟨7, ⟨some 56, .pick (.tmp 52) (.tmp 55) (.const (.bool false)), 4, none, true⟩, .q, []⟩,
  ⟨8, ⟨some 57, .move (.tmp 56), 4, none, true⟩, .q, []⟩,
  ⟨9, ⟨some 58, .move (.tmp 15), 26, some (some 57), true⟩, .q, []⟩,
  ⟨10, ⟨some 59, .move (.tmp 17), 26, some (some 57), true⟩, .q, []⟩,
  ⟨11, ⟨some 60, .call (⟨.value (.func 17), #[.tmp 58, .tmp 59], #[26, 26]⟩), 4, some (some 57), true⟩, .e, []⟩,
  ⟨12, ⟨some 61, .pick (.tmp 57) (.tmp 60) (.const (.bool false)), 4, none, true⟩, .q, []⟩,
  ⟨13, ⟨some 62, .move (.tmp 61), 4, none, true⟩, .q, []⟩,
  ⟨14, ⟨some 63, .move (.tmp 19), 26, some (some 62), true⟩, .q, []⟩,
  ⟨15, ⟨some 64, .move (.tmp 21), 26, some (some 62), true⟩, .q, []⟩,
  ⟨16, ⟨some 65, .call (⟨.value (.func 17), #[.tmp 63, .tmp 64], #[26, 26]⟩), 4, some (some 62), true⟩, .e, []⟩,
  ⟨17, ⟨some 66, .pick (.tmp 62) (.tmp 65) (.const (.bool false)), 4, none, true⟩, .q, []⟩,
  ⟨18, ⟨some 67, .move (.tmp 66), 4, none, true⟩, .q, []⟩,
  ⟨19, ⟨some 68, .move (.tmp 0), 26, some (some 67), true⟩, .q, []⟩,
  ⟨20, ⟨some 69, .move (.tmp 2), 32, some (some 67), true⟩, .q, []⟩,
  ⟨22, ⟨some 71, .move (.tmp 0), 26, some (some 67), true⟩, .q, []⟩,
  ⟨23, ⟨some 72, .move (.tmp 2), 32, some (some 67), true⟩, .q, []⟩,
  ⟨21, ⟨some 70, .call (⟨.value (.func 18), #[.tmp 68, .tmp 69], #[26, 32]⟩), 26, some (some 67), true⟩, .e, []⟩,
  ⟨24, ⟨some 73, .call (⟨.value (.func 26), #[.tmp 71, .tmp 72], #[26, 32]⟩), 26, some (some 67), true⟩, .e, []⟩,
  ⟨25, ⟨some 74, .call (⟨.value (.func 17), #[.tmp 70, .tmp 73], #[26, 26]⟩), 4, some (some 67), true⟩, .e, []⟩,
  ⟨26, ⟨some 75, .pick (.tmp 67) (.tmp 74) (.const (.bool false)), 4, none, true⟩, .q, []⟩,
  ⟨27, ⟨some 76, .move (.tmp 75), 4, none, true⟩, .q, []⟩,
  ⟨28, ⟨some 77, .move (.tmp 0), 26, some (some 76), true⟩, .q, []⟩,
  ⟨29, ⟨some 78, .move (.tmp 3), 3, some (some 76), true⟩, .q, []⟩,
  ⟨31, ⟨some 80, .move (.tmp 0), 26, some (some 76), true⟩, .q, []⟩,
  ⟨32, ⟨some 81, .move (.tmp 3), 3, some (some 76), true⟩, .q, []⟩,
  ⟨30, ⟨some 79, .call (⟨.value (.func 19), #[.tmp 77, .tmp 78], #[26, 3]⟩), 47, some (some 76), true⟩, .e, []⟩,
  ⟨33, ⟨some 82, .call (⟨.value (.func 27), #[.tmp 80, .tmp 81], #[26, 3]⟩), 47, some (some 76), true⟩, .e, []⟩,
  ⟨34, ⟨some 83, .call (⟨.value (.func 21), #[.tmp 79, .tmp 82], #[47, 47]⟩), 4, some (some 76), true⟩, .e, []⟩,
  ⟨35, ⟨some 84, .pick (.tmp 76) (.tmp 83) (.const (.bool false)), 4, none, true⟩, .q, []⟩,
  ⟨36, ⟨some 85, .move (.tmp 84), 4, none, true⟩, .q, []⟩,
  ⟨37, ⟨some 86, .move (.tmp 0), 26, some (some 85), true⟩, .q, []⟩,
  ⟨38, ⟨some 87, .move (.tmp 4), 3, some (some 85), true⟩, .q, []⟩,
  ⟨39, ⟨some 88, .move (.tmp 5), 3, some (some 85), true⟩, .q, []⟩,
  ⟨41, ⟨some 90, .move (.tmp 0), 26, some (some 85), true⟩, .q, []⟩,
  ⟨42, ⟨some 91, .move (.tmp 4), 3, some (some 85), true⟩, .q, []⟩,
  ⟨43, ⟨some 92, .move (.tmp 5), 3, some (some 85), true⟩, .q, []⟩,
  ⟨40, ⟨some 89, .call (⟨.value (.func 13), #[.tmp 86, .tmp 87, .tmp 88], #[26, 3, 3]⟩), 26, some (some 85), true⟩, .e, []⟩,
  ⟨44, ⟨some 93, .call (⟨.value (.func 28), #[.tmp 90, .tmp 91, .tmp 92], #[26, 3, 3]⟩), 26, some (some 85), true⟩, .e, []⟩,
  ⟨45, ⟨some 94, .call (⟨.value (.func 17), #[.tmp 89, .tmp 93], #[26, 26]⟩), 4, some (some 85), true⟩, .e, []⟩,
  ⟨46, ⟨some 95, .pick (.tmp 85) (.tmp 94) (.const (.bool false)), 4, none, true⟩, .q, []⟩,
  ⟨47, ⟨some 96, .move (.tmp 95), 4, none, true⟩, .q, []⟩,
  ⟨48, ⟨some 97, .move (.tmp 0), 26, some (some 96), true⟩, .q, []⟩,
  ⟨50, ⟨some 99, .move (.tmp 0), 26, some (some 96), true⟩, .q, []⟩,
  ⟨49, ⟨some 98, .call (⟨.value (.func 12), #[.tmp 97], #[26]⟩), 4, some (some 96), true⟩, .e, []⟩,
  ⟨51, ⟨some 100, .call (⟨.value (.func 29), #[.tmp 99], #[26]⟩), 4, some (some 96), true⟩, .e, []⟩,
  ⟨52, ⟨some 101, .binOp .eql 4 (.tmp 98) (.tmp 100) 4, 4, some (some 96), true⟩, .q, []⟩,
  ⟨53, ⟨some 102, .pick (.tmp 96) (.tmp 101) (.const (.bool false)), 4, none, true⟩, .q, []⟩,
  ⟨54, ⟨some 103, .move (.tmp 102), 4, none, true⟩, .q, []⟩,
  ⟨55, ⟨some 104, .load 30 (.tmp 8), 30, some (some 103), true⟩, .h, []⟩,
  ⟨57, ⟨some 106, .load 30 (.tmp 8), 30, some (some 103), true⟩, .h, [14]⟩,
  ⟨56, ⟨some 105, .call (⟨.value (.func 22), #[.tmp 104], #[30]⟩), 4, some (some 103), true⟩, .e, []⟩,
  ⟨58, ⟨some 107, .call (⟨.value (.func 30), #[.tmp 106], #[30]⟩), 4, some (some 103), true⟩, .e, []⟩,
  ⟨59, ⟨some 108, .binOp .eql 4 (.tmp 105) (.tmp 107) 4, 4, some (some 103), true⟩, .q, []⟩,
  ⟨60, ⟨some 109, .pick (.tmp 103) (.tmp 108) (.const (.bool false)), 4, none, true⟩, .q, []⟩,
  ⟨61, ⟨some 14, .assign (.tmp 109), 4, none, true⟩, .q, []⟩]
theorem dc11_5 : drawC ap (drawOf T.c11 5).toList [0, 1, 2, 3, 4, 5, 6, 7, 8, 9, 10, 11, 12, 13, 14, 15, 16, 17, 18, 19, 20, 22, 23, 21, 24, 25, 26, 27, 28, 29, 31, 32, 30, 33, 34, 35, 36, 37, 38, 39, 41, 42, 43, 40, 44, 45, 46, 47, 48, 50, 49, 51, 52, 53, 54, 55, 57, 56, 58, 59, 60, 61] [[], [], [0, 1], [0, 1, 2], [0, 1, 2, 3], [0, 1, 2, 3], [0, 1, 2, 3, 4, 5], [0, 1, 2, 3, 4, 5, 6], [0, 1, 2, 3, 4, 5, 6, 7], [0, 1, 2, 3, 4, 5, 6, 7, 8], [0, 1, 2, 3, 4, 5, 6, 7, 8], [0, 1, 2, 3, 4, 5, 6, 7, 8, 9, 10], [0, 1, 2, 3, 4, 5, 6, 7, 8, 9, 10, 11], [0, 1, 2, 3, 4, 5, 6, 7, 8, 9, 10, 11, 12], [0, 1, 2, 3, 4, 5, 6, 7, 8, 9, 10, 11, 12, 13], [0, 1, 2, 3, 4, 5, 6, 7, 8, 9, 10, 11, 12, 13], [0, 1, 2, 3, 4, 5, 6, 7, 8, 9, 10, 11, 12, 13, 14, 15], [0, 1, 2, 3, 4, 5, 6, 7, 8, 9, 10, 11, 12, 13, 14, 15, 16], [0, 1, 2, 3, 4, 5, 6, 7, 8, 9, 10, 11, 12, 13, 14, 15, 16, 17], [0, 1, 2, 3, 4, 5, 6, 7, 8, 9, 10, 11, 12, 13, 14, 15, 16, 17, 18], [0, 1, 2, 3, 4, 5, 6, 7, 8, 9, 10, 11, 12, 13, 14, 15, 16, 17, 18], [0, 1, 2, 3, 4, 5, 6, 7, 8, 9, 10, 11, 12, 13, 14, 15, 16, 17, 18, 19, 20], [0, 1, 2, 3, 4, 5, 6, 7, 8, 9, 10, 11, 12, 13, 14, 15, 16, 17, 18], [0, 1, 2, 3, 4, 5, 6, 7, 8, 9, 10, 11, 12, 13, 14, 15, 16, 17, 18], [0, 1, 2, 3, 4, 5, 6, 7, 8, 9, 10, 11, 12, 13, 14, 15, 16, 17, 18, 19, 20, 21, 22, 23], [0, 1, 2, 3, 4, 5, 6, 7, 8, 9, 10, 11, 12, 13, 14, 15, 16, 17, 18, 19, 20, 21, 22, 23, 24], [0, 1, 2, 3, 4, 5, 6, 7, 8, 9, 10, 11, 12, 13, 14, 15, 16, 17, 18, 19, 20, 21, 22, 23, 24, 25], [0, 1, 2, 3, 4, 5, 6, 7, 8, 9, 10, 11, 12, 13, 14, 15, 16, 17, 18, 19, 20, 21, 22, 23, 24, 25, 26], [0, 1, 2, 3, 4, 5, 6, 7, 8, 9, 10, 11, 12, 13, 14, 15, 16, 17, 18, 19, 20, 21, 22, 23, 24, 25, 26, 27], [0, 1, 2, 3, 4, 5, 6, 7, 8, 9, 10, 11, 12, 13, 14, 15, 16, 17, 18, 19, 20, 21, 22, 23, 24, 25, 26, 27], [0, 1, 2, 3, 4, 5, 6, 7, 8, 9, 10, 11, 12, 13, 14, 15, 16, 17, 18, 19, 20, 21, 22, 23, 24, 25, 26, 27, 28, 29], [0, 1, 2, 3, 4, 5, 6, 7, 8, 9, 10, 11, 12, 13, 14, 15, 16, 17, 18, 19, 20, 21, 22, 23, 24, 25, 26, 27], [0, 1, 2, 3, 4, 5, 6, 7, 8, 9, 10, 11, 12, 13, 14, 15, 16, 17, 18, 19, 20, 21, 22, 23, 24, 25, 26, 27], [0, 1, 2, 3, 4, 5, 6, 7, 8, 9, 10, 11, 12, 13, 14, 15, 16, 17, 18, 19, 20, 21, 22, 23, 24, 25, 26, 27, 28, 29, 30, 31, 32], [0, 1, 2, 3, 4, 5, 6, 7, 8, 9, 10, 11, 12, 13, 14, 15, 16, 17, 18, 19, 20, 21, 22, 23, 24, 25, 26, 27, 28, 29, 30, 31, 32, 33], [0, 1, 2, 3, 4, 5, 6, 7, 8, 9, 10, 11, 12, 13, 14, 15, 16, 17, 18, 19, 20, 21, 22, 23, 24, 25, 26, 27, 28, 29, 30, 31, 32, 33, 34], [0, 1, 2, 3, 4, 5, 6, 7, 8, 9, 10, 11, 12, 13, 14, 15, 16, 17, 18, 19, 20, 21, 22, 23, 24, 25, 26, 27, 28, 29, 30, 31, 32, 33, 34, 35], [0, 1, 2, 3, 4, 5, 6, 7, 8, 9, 10, 11, 12, 13, 14, 15, 16, 17, 18, 19, 20, 21, 22, 23, 24, 25, 26, 27, 28, 29, 30, 31, 32, 33, 34, 35, 36], [0, 1, 2, 3, 4, 5, 6, 7, 8, 9, 10, 11, 12, 13, 14, 15, 16, 17, 18, 19, 20, 21, 22, 23, 24, 25, 26, 27, 28, 29, 30, 31, 32, 33, 34, 35, 36], [0, 1, 2, 3, 4, 5, 6, 7, 8, 9, 10, 11, 12, 13, 14, 15, 16, 17, 18, 19, 20, 21, 22, 23, 24, 25, 26, 27, 28, 29, 30, 31, 32, 33, 34, 35, 36], [0, 1, 2, 3, 4, 5, 6, 7, 8, 9, 10, 11, 12, 13, 14, 15, 16, 17, 18, 19, 20, 21, 22, 23, 24, 25, 26, 27, 28, 29, 30, 31, 32, 33, 34, 35, 36, 37, 38, 39], [0, 1, 2, 3, 4, 5, 6, 7, 8, 9, 10, 11, 12, 13, 14, 15, 16, 17, 18, 19, 20, 21, 22, 23, 24, 25, 26, 27, 28, 29, 30, 31, 32, 33, 34, 35, 36], [0, 1, 2, 3, 4, 5, 6, 7, 8, 9, 10, 11, 12, 13, 14, 15, 16, 17, 18, 19, 20, 21, 22, 23, 24, 25, 26, 27, 28, 29, 30, 31, 32, 33, 34, 35, 36], [0, 1, 2, 3, 4, 5, 6, 7, 8, 9, 10, 11, 12, 13, 14, 15, 16, 17, 18, 19, 20, 21, 22, 23, 24, 25, 26, 27, 28, 29, 30, 31, 32, 33, 34, 35, 36], [0, 1, 2, 3, 4, 5, 6, 7, 8, 9, 10, 11, 12, 13, 14, 15, 16, 17, 18, 19, 20, 21, 22, 23, 24, 25, 26, 27, 28, 29, 30, 31, 32, 33, 34, 35, 36, 37, 38, 39, 40, 41, 42, 43], [0, 1, 2, 3, 4, 5, 6, 7, 8, 9, 10, 11, 12, 13, 14, 15, 16, 17, 18, 19, 20, 21, 22, 23, 24, 25, 26, 27, 28, 29, 30, 31, 32, 33, 34, 35, 36, 37, 38, 39, 40, 41, 42, 43, 44], [0, 1, 2, 3, 4, 5, 6, 7, 8, 9, 10, 11, 12, 13, 14, 15, 16, 17, 18, 19, 20, 21, 22, 23, 24, 25, 26, 27, 28, 29, 30, 31, 32, 33, 34, 35, 36, 37, 38, 39, 40, 41, 42, 43, 44, 45], [0, 1, 2, 3, 4, 5, 6, 7, 8, 9, 10, 11, 12, 13, 14, 15, 16, 17, 18, 19, 20, 21, 22, 23, 24, 25, 26, 27, 28, 29, 30, 31, 32, 33, 34, 35, 36, 37, 38, 39, 40, 41, 42, 43, 44, 45, 46], [0, 1, 2, 3, 4, 5, 6, 7, 8, 9, 10, 11, 12, 13, 14, 15, 16, 17, 18, 19, 20, 21, 22, 23, 24, 25, 26, 27, 28, 29, 30, 31, 32, 33, 34, 35, 36, 37, 38, 39, 40, 41, 42, 43, 44, 45, 46, 47], [0, 1, 2, 3, 4, 5, 6, 7, 8, 9, 10, 11, 12, 13, 14, 15, 16, 17, 18, 19, 20, 21, 22, 23, 24, 25, 26, 27, 28, 29, 30, 31, 32, 33, 34, 35, 36, 37, 38, 39, 40, 41, 42, 43, 44, 45, 46, 47, 48], [0, 1, 2, 3, 4, 5, 6, 7, 8, 9, 10, 11, 12, 13, 14, 15, 16, 17, 18, 19, 20, 21, 22, 23, 24, 25, 26, 27, 28, 29, 30, 31, 32, 33, 34, 35, 36, 37, 38, 39, 40, 41, 42, 43, 44, 45, 46, 47], [0, 1, 2, 3, 4, 5, 6, 7, 8, 9, 10, 11, 12, 13, 14, 15, 16, 17, 18, 19, 20, 21, 22, 23, 24, 25, 26, 27, 28, 29, 30, 31, 32, 33, 34, 35, 36, 37, 38, 39, 40, 41, 42, 43, 44, 45, 46, 47, 48, 49, 50], [0, 1, 2, 3, 4, 5, 6, 7, 8, 9, 10, 11, 12, 13, 14, 15, 16, 17, 18, 19, 20, 21, 22, 23, 24, 25, 26, 27, 28, 29, 30, 31, 32, 33, 34, 35, 36, 37, 38, 39, 40, 41, 42, 43, 44, 45, 46, 47, 48, 49, 50, 51], [0, 1, 2, 3, 4, 5, 6, 7, 8, 9, 10, 11, 12, 13, 14, 15, 16, 17, 18, 19, 20, 21, 22, 23, 24, 25, 26, 27, 28, 29, 30, 31, 32, 33, 34, 35, 36, 37, 38, 39, 40, 41, 42, 43, 44, 45, 46, 47, 48, 49, 50, 51, 52], [0, 1, 2, 3, 4, 5, 6, 7, 8, 9, 10, 11, 12, 13, 14, 15, 16, 17, 18, 19, 20, 21, 22, 23, 24, 25, 26, 27, 28, 29, 30, 31, 32, 33, 34, 35, 36, 37, 38, 39, 40, 41, 42, 43, 44, 45, 46, 47, 48, 49, 50, 51, 52, 53], [0, 1, 2, 3, 4, 5, 6, 7, 8, 9, 10, 11, 12, 13, 14, 15, 16, 17, 18, 19, 20, 21, 22, 23, 24, 25, 26, 27, 28, 29, 30, 31, 32, 33, 34, 35, 36, 37, 38, 39, 40, 41, 42, 43, 44, 45, 46, 47, 48, 49, 50, 51, 52, 53, 54], [0, 1, 2, 3, 4, 5, 6, 7, 8, 9, 10, 11, 12, 13, 14, 15, 16, 17, 18, 19, 20, 21, 22, 23, 24, 25, 26, 27, 28, 29, 30, 31, 32, 33, 34, 35, 36, 37, 38, 39, 40, 41, 42, 43, 44, 45, 46, 47, 48, 49, 50, 51, 52, 53, 54, 55], [0, 1, 2, 3, 4, 5, 6, 7, 8, 9, 10, 11, 12, 13, 14, 15, 16, 17, 18, 19, 20, 21, 22, 23, 24, 25, 26, 27, 28, 29, 30, 31, 32, 33, 34, 35, 36, 37, 38, 39, 40, 41, 42, 43, 44, 45, 46, 47, 48, 49, 50, 51, 52, 53, 54], [0, 1, 2, 3, 4, 5, 6, 7, 8, 9, 10, 11, 12, 13, 14, 15, 16, 17, 18, 19, 20, 21, 22, 23, 24, 25, 26, 27, 28, 29, 30, 31, 32, 33, 34, 35, 36, 37, 38, 39, 40, 41, 42, 43, 44, 45, 46, 47, 48, 49, 50, 51, 52, 53, 54, 55, 56, 57], [0, 1, 2, 3, 4, 5, 6, 7, 8, 9, 10, 11, 12, 13, 14, 15, 16, 17, 18, 19, 20, 21, 22, 23, 24, 25, 26, 27, 28, 29, 30, 31, 32, 33, 34, 35, 36, 37, 38, 39, 40, 41, 42, 43, 44, 45, 46, 47, 48, 49, 50, 51, 52, 53, 54, 55, 56, 57, 58], [0, 1, 2, 3, 4, 5, 6, 7, 8, 9, 10, 11, 12, 13, 14, 15, 16, 17, 18, 19, 20, 21, 22, 23, 24, 25, 26, 27, 28, 29, 30, 31, 32, 33, 34, 35, 36, 37, 38, 39, 40, 41, 42, 43, 44, 45, 46, 47, 48, 49, 50, 51, 52, 53, 54, 55, 56, 57, 58, 59], [0, 1, 2, 3, 4, 5, 6, 7, 8, 9, 10, 11, 12, 13, 14, 15, 16, 17, 18, 19, 20, 21, 22, 23, 24, 25, 26, 27, 28, 29, 30, 31, 32, 33, 34, 35, 36, 37, 38, 39, 40, 41, 42, 43, 44, 45, 46, 47, 48, 49, 50, 51, 52, 53, 54, 55, 56, 57, 58, 59, 60]] = some d11_5 := by kernel_rfl
def d12_4 : List DP := [⟨0, ⟨some 12, .load 30 (.tmp 4), 30, none, true⟩, .h, []⟩,
  ⟨1, ⟨some 13, .call (⟨.value (.func 22), #[.tmp 12], #[30]⟩), 4, none, true⟩, .e, []⟩,
  ⟨2, ⟨some 14, .unOp .not 4 (.tmp 13), 4, none, true⟩, .q, []⟩,
  ⟨3, ⟨some 15, .move (.tmp 14), 4, none, true⟩, .q, []⟩,
  ⟨4, ⟨some 16, .move (.tmp 3), 3, some (some 15), false⟩, .q, []⟩,
  ⟨5, ⟨some 17, .binOp .gtr 3 (.tmp 16) (.const (.int .i64 0)) 3, 4, some (some 15), false⟩, .q, []⟩,
  ⟨6, ⟨some 18, .move (.tmp 17), 4, some (some 15), false⟩, .q, []⟩,
  ⟨7, ⟨some 19, .move (.tmp 0), 26, some (some 18), true⟩, .q, []⟩,
  ⟨8, ⟨some 20, .move (.tmp 3), 3, some (some 18), true⟩, .q, []⟩,
  ⟨9, ⟨some 21, .binOp .sub 3 (.tmp 20) (.const (.int .i64 1)) 3, 3, some (some 18), true⟩, .q, []⟩,
  ⟨10, ⟨some 22, .indexAddr 26 (.tmp 19) (.tmp 21), 0, some (some 18), true⟩, .q, []⟩,
  ⟨11, ⟨some 23, .fieldAddr 30 (.tmp 22) 0, 0, some (some 18), true⟩, .q, []⟩,
  ⟨12, ⟨some 24, .load 2 (.tmp 23), 2, some (some 18), true⟩, .h, []⟩,
  ⟨13, ⟨some 25, .fieldAddr 30 (.tmp 4) 0, 0, some (some 18), true⟩, .q, []⟩,
  ⟨14, ⟨some 26, .load 2 (.tmp 25), 2, some (some 18), true⟩, .h, []⟩,
  ⟨15, ⟨some 27, .binOp .geq 2 (.tmp 24) (.tmp 26) 2, 4, some (some 18), true⟩, .q, []⟩,
  ⟨16, ⟨some 28, .pick (.tmp 18) (.tmp 27) (.const (.bool false)), 4, some (some 15), false⟩, .q, []⟩,
  ⟨17, ⟨some 29, .pick (.tmp 15) (.const (.bool true)) (.tmp 28), 4, none, true⟩, .q, []⟩]
theorem dc12_4 : drawC ap (drawOf T.c12 4).toList [0, 1, 2, 3, 4, 5, 6, 7, 8, 9, 10, 11, 12, 13, 14, 15, 16, 17] [[], [0], [0, 1], [0, 1, 2], [0, 1, 2, 3], [0, 1, 2, 3, 4], [0, 1, 2, 3, 4, 5], [0, 1, 2, 3, 4, 5, 6], [0, 1, 2, 3, 4, 5, 6], [0, 1, 2, 3, 4, 5, 6, 8], [0, 1, 2, 3, 4, 5, 6, 7, 8, 9], [0, 1, 2, 3, 4, 5, 6, 7, 8, 9, 10], [0, 1, 2, 3, 4, 5, 6, 7, 8, 9, 10, 11], [0, 1, 2, 3, 4, 5, 6], [0, 1, 2, 3, 4, 5, 6, 13], [0, 1, 2, 3, 4, 5, 6, 7, 8, 9, 10, 11, 12, 13, 14], [0, 1, 2, 3, 4, 5, 6, 7, 8, 9, 10, 11, 12, 13, 14, 15], [0, 1, 2, 3, 4, 5, 6, 7, 8, 9, 10, 11, 12, 13, 14, 15, 16]] = some d12_4 := by kernel_rfl
def d14_8 : List DP := [⟨0, ⟨some 31, .move (.tmp 10), 3, none, true⟩, .q, []⟩,
  ⟨1, ⟨some 32, .binOp .gtr 3 (.tmp 31) (.const (.int .i64 0)) 3, 4, none, true⟩, .q, []⟩,
  ⟨2, ⟨some 33, .move (.tmp 32), 4, none, true⟩, .q, []⟩,
  ⟨3, ⟨some 34, .load 30 (.tmp 9), 30, some (some 33), true⟩, .h, []⟩,
  ⟨4, ⟨some 35, .load 26 (.tmp 7), 26, some (some 33), true⟩, .h, []⟩,
  ⟨5, ⟨some 36, .move (.tmp 10), 3, some (some 33), true⟩, .q, []⟩,
  ⟨6, ⟨some 37, .binOp .sub 3 (.tmp 36) (.const (.int .i64 1)) 3, 3, some (some 33), true⟩, .q, []⟩,
  ⟨7, ⟨some 38, .indexAddr 26 (.tmp 35) (.tmp 37), 0, some (some 33), true⟩, .q, []⟩,
  ⟨8, ⟨some 39, .load 30 (.tmp 38), 30, some (some 33), true⟩, .h, []⟩,
  ⟨9, ⟨some 40, .call (⟨.value (.func 31), #[.tmp 34, .tmp 39], #[30, 30]⟩), 4, some (some 33), true⟩, .e, []⟩,
  ⟨10, ⟨some 41, .pick (.tmp 33) (.tmp 40) (.const (.bool false)), 4, none, true⟩, .q, []⟩]
theorem dc14_8 : drawC ap (drawOf T.c14 8).toList [0, 1, 2, 3, 4, 5, 6, 7, 8, 9, 10] [[], [0], [0, 1], [0, 1, 2], [0, 1, 2], [0, 1, 2], [0, 1, 2, 5], [0, 1, 2, 4, 5, 6], [0, 1, 2, 4, 5, 6, 7], [0, 1, 2, 3, 4, 5, 6, 7, 8], [0, 1, 2, 3, 4, 5, 6, 7, 8, 9]] = some d14_8 := by kernel_rfl
def d15_1 : List DP := [⟨0, ⟨some 7, .move (.tmp 0), 26, none, true⟩, .q, []⟩,
  ⟨1, ⟨some 8, .call (⟨.value (.func 12), #[.tmp 7], #[26]⟩), 4, none, true⟩, .e, []⟩,
  ⟨2, ⟨some 9, .unOp .not 4 (.tmp 8), 4, none, true⟩, .q, []⟩,
  ⟨3, ⟨some 10, .move (.tmp 9), 4, none, true⟩, .q, []⟩,
  ⟨4, ⟨some 11, .load 30 (.tmp 3), 30, some (some 10), false⟩, .h, []⟩,
  ⟨5, ⟨some 12, .call (⟨.value (.func 22), #[.tmp 11], #[30]⟩), 4, some (some 10), false⟩, .e, []⟩,
  ⟨6, ⟨some 13, .unOp .not 4 (.tmp 12), 4, some (some 10), false⟩, .q, []⟩,
  ⟨7, ⟨some 14, .pick (.tmp 10) (.const (.bool true)) (.tmp 13), 4, none, true⟩, .q, []⟩,
  ⟨8, ⟨some 15, .move (.tmp 14), 4, none, true⟩, .q, []⟩,
  ⟨9, ⟨some 16, .move (.tmp 0), 26, some (some 15), false⟩, .q, []⟩,
  ⟨10, ⟨some 17, .call (⟨.builtin .len, #[.tmp 16], #[26]⟩), 3, some (some 15), false⟩, .q, []⟩,
  ⟨11, ⟨some 18, .binOp .gtr 3 (.tmp 17) (.const (.int .i64 0)) 3, 4, some (some 15), false⟩, .q, []⟩,
  ⟨12, ⟨some 19, .move (.tmp 18), 4, some (some 15), false⟩, .q, []⟩,
  ⟨13, ⟨some 20, .move (.tmp 0), 26, some (some 19), true⟩, .q, []⟩,
  ⟨14, ⟨some 21, .move (.tmp 0), 26, some (some 19), true⟩, .q, []⟩,
  ⟨15, ⟨some 22, .call (⟨.builtin .len, #[.tmp 21], #[26]⟩), 3, some (some 19), true⟩, .q, []⟩,
  ⟨16, ⟨some 23, .binOp .sub 3 (.tmp 22) (.const (.int .i64 1)) 3, 3, some (some 19), true⟩, .q, []⟩,
  ⟨17, ⟨some 24, .indexAddr 26 (.tmp 20) (.tmp 23), 0, some (some 19), true⟩, .q, []⟩,
  ⟨18, ⟨some 25, .fieldAddr 30 (.tmp 24) 0, 0, some (some 19), true⟩, .q, []⟩,
  ⟨19, ⟨some 26, .load 2 (.tmp 25), 2, some (some 19), true⟩, .h, []⟩,
  ⟨20, ⟨some 27, .fieldAddr 30 (.tmp 3) 0, 0, some (some 19), true⟩, .q, []⟩,
  ⟨21, ⟨some 28, .load 2 (.tmp 27), 2, some (some 19), true⟩, .h, []⟩,
  ⟨22, ⟨some 29, .binOp .geq 2 (.tmp 26) (.tmp 28) 2, 4, some (some 19), true⟩, .q, []⟩,
  ⟨23, ⟨some 30, .pick (.tmp 19) (.tmp 29) (.const (.bool false)), 4, some (some 15), false⟩, .q, []⟩,
  ⟨24, ⟨some 31, .pick (.tmp 15) (.const (.bool true)) (.tmp 30), 4, none, true⟩, .q, []⟩,
  ⟨25, ⟨some 6, .assign (.tmp 31), 4, none, true⟩, .q, []⟩]
theorem dc15_1 : drawC ap (drawOf T.c15 1).toList [0, 1, 2, 3, 4, 5, 6, 7, 8, 9, 10, 11, 12, 13, 14, 15, 16, 17, 18, 19, 20, 21, 22, 23, 24, 25] [[], [0], [0, 1], [0, 1, 2], [0, 1, 2, 3], [0, 1, 2, 3, 4], [0, 1, 2, 3, 4, 5], [0, 1, 2, 3, 4, 5, 6], [0, 1, 2, 3, 4, 5, 6, 7], [0, 1, 2, 3, 4, 5, 6, 7, 8], [0, 1, 2, 3, 4, 5, 6, 7, 8, 9], [0, 1, 2, 3, 4, 5, 6, 7, 8, 9, 10], [0, 1, 2, 3, 4, 5, 6, 7, 8, 9, 10, 11], [0, 1, 2, 3, 4, 5, 6, 7, 8, 9, 10, 11, 12], [0, 1, 2, 3, 4, 5, 6, 7, 8, 9, 10, 11, 12], [0, 1, 2, 3, 4, 5, 6, 7, 8, 9, 10, 11, 12, 14], [0, 1, 2, 3, 4, 5, 6, 7, 8, 9, 10, 11, 12, 14, 15], [0, 1, 2, 3, 4, 5, 6, 7, 8, 9, 10, 11, 12, 13, 14, 15, 16], [0, 1, 2, 3, 4, 5, 6, 7, 8, 9, 10, 11, 12, 13, 14, 15, 16, 17], [0, 1, 2, 3, 4, 5, 6, 7, 8, 9, 10, 11, 12, 13, 14, 15, 16, 17, 18], [0, 1, 2, 3, 4, 5, 6, 7, 8, 9, 10, 11, 12], [0, 1, 2, 3, 4, 5, 6, 7, 8, 9, 10, 11, 12, 20], [0, 1, 2, 3, 4, 5, 6, 7, 8, 9, 10, 11, 12, 13, 14, 15, 16, 17, 18, 19, 20, 21], [0, 1, 2, 3, 4, 5, 6, 7, 8, 9, 10, 11, 12, 13, 14, 15, 16, 17, 18, 19, 20, 21, 22], [0, 1, 2, 3, 4, 5, 6, 7, 8, 9, 10, 11, 12, 13, 14, 15, 16, 17, 18, 19, 20, 21, 22, 23], [0, 1, 2, 3, 4, 5, 6, 7, 8, 9, 10, 11, 12, 13, 14, 15, 16, 17, 18, 19, 20, 21, 22, 23, 24]] = some d15_1 := by kernel_rfl
def d15_5 : List DP := [⟨0, ⟨some 36, .move (.tmp 0), 26, none, true⟩, .q, []⟩,
  ⟨2, ⟨some 38, .load 30 (.tmp 3), 30, none, true⟩, .h, [1]⟩,
  ⟨1, ⟨some 37, .call (⟨.value (.func 34), #[.tmp 36], #[26]⟩), 26, none, true⟩, .e, []⟩,
  ⟨3, ⟨some 39, .buildSlice 26 1 #[(0, .tmp 38)], 26, none, true⟩, .a, []⟩,
  ⟨4, ⟨some 40, .call (⟨.builtin .append, #[.tmp 37, .tmp 39], #[26, 26]⟩), 26, none, true⟩, .e, []⟩,
  ⟨5, ⟨some 4, .assign (.tmp 40), 26, none, true⟩, .q, []⟩,
  ⟨6, ⟨some 5, .assign (.const (.int .i64 0)), 40, none, true⟩, .q, []⟩]
theorem dc15_5 : drawC ap (drawOf T.c15 5).toList [0, 2, 1, 3, 4, 5, 6] [[], [0], [], [2], [0, 1, 2, 3], [0, 1, 2, 3, 4], [0, 1, 2, 3, 4, 5]] = some d15_5 := by kernel_rfl
def d17_6 : List DP := [⟨0, ⟨some 17, .move (.tmp 0), 26, none, true⟩, .q, []⟩,
  ⟨1, ⟨some 18, .move (.tmp 5), 3, none, true⟩, .q, []⟩,
  ⟨2, ⟨some 19, .indexAddr 26 (.tmp 17) (.tmp 18), 0, none, true⟩, .q, []⟩,
  ⟨3, ⟨some 20, .load 30 (.tmp 19), 30, none, true⟩, .h, []⟩,
  ⟨4, ⟨some 21, .move (.tmp 1), 26, none, true⟩, .q, []⟩,
  ⟨5, ⟨some 22, .move (.tmp 5), 3, none, true⟩, .q, []⟩,
  ⟨6, ⟨some 23, .indexAddr 26 (.tmp 21) (.tmp 22), 0, none, true⟩, .q, []⟩,
  ⟨7, ⟨some 24, .load 30 (.tmp 23), 30, none, true⟩, .h, []⟩,
  ⟨8, ⟨some 25, .binOp .neq 30 (.tmp 20) (.tmp 24) 30, 4, none, true⟩, .q, []⟩]
theorem dc17_6 : drawC ap (drawOf T.c17 6).toList [0, 1, 2, 3, 4, 5, 6, 7, 8] [[], [], [0, 1], [0, 1, 2], [], [], [4, 5], [4, 5, 6], [0, 1, 2, 3, 4, 5, 6, 7]] = some d17_6 := by kernel_rfl
def d20_6 : List DP := [⟨0, ⟨some 17, .move (.tmp 0), 52, none, true⟩, .q, []⟩,
  ⟨1, ⟨some 18, .move (.tmp 5), 3, none, true⟩, .q, []⟩,
  ⟨2, ⟨some 19, .indexAddr 52 (.tmp 17) (.tmp 18), 0, none, true⟩, .q, []⟩,
  ⟨3, ⟨some 20, .load 2 (.tmp 19), 2, none, true⟩, .h, []⟩,
  ⟨4, ⟨some 21, .move (.tmp 1), 52, none, true⟩, .q, []⟩,
  ⟨5, ⟨some 22, .move (.tmp 5), 3, none, true⟩, .q, []⟩,
  ⟨6, ⟨some 23, .indexAddr 52 (.tmp 21) (.tmp 22), 0, none, true⟩, .q, []⟩,
  ⟨7, ⟨some 24, .load 2 (.tmp 23), 2, none, true⟩, .h, []⟩,
  ⟨8, ⟨some 25, .binOp .neq 2 (.tmp 20) (.tmp 24) 2, 4, none, true⟩, .q, []⟩]
theorem dc20_6 : drawC ap (drawOf T.c20 6).toList [0, 1, 2, 3, 4, 5, 6, 7, 8] [[], [], [0, 1], [0, 1, 2], [], [], [4, 5], [4, 5, 6], [0, 1, 2, 3, 4, 5, 6, 7]] = some d20_6 := by kernel_rfl
def d21_6 : List DP := [⟨0, ⟨some 17, .move (.tmp 0), 47, none, true⟩, .q, []⟩,
  ⟨1, ⟨some 18, .move (.tmp 5), 3, none, true⟩, .q, []⟩,
  ⟨2, ⟨some 19, .indexAddr 47 (.tmp 17) (.tmp 18), 0, none, true⟩, .q, []⟩,
  ⟨3, ⟨some 20, .load 50 (.tmp 19), 50, none, true⟩, .h, []⟩,
  ⟨4, ⟨some 21, .move (.tmp 1), 47, none, true⟩, .q, []⟩,
  ⟨5, ⟨some 22, .move (.tmp 5), 3, none, true⟩, .q, []⟩,
  ⟨6, ⟨some 23, .indexAddr 47 (.tmp 21) (.tmp 22), 0, none, true⟩, .q, []⟩,
  ⟨7, ⟨some 24, .load 50 (.tmp 23), 50, none, true⟩, .h, []⟩,
  ⟨8, ⟨some 25, .binOp .neq 50 (.tmp 20) (.tmp 24) 50, 4, none, true⟩, .q, []⟩]
theorem dc21_6 : drawC ap (drawOf T.c21 6).toList [0, 1, 2, 3, 4, 5, 6, 7, 8] [[], [], [0, 1], [0, 1, 2], [], [], [4, 5], [4, 5, 6], [0, 1, 2, 3, 4, 5, 6, 7]] = some d21_6 := by kernel_rfl
def d23_2 : List DP := [⟨0, ⟨some 4, .move (.tmp 0), 24, none, true⟩, .q, []⟩,
  ⟨1, ⟨some 5, .nilCheck (.tmp 4), 0, none, true⟩, .q, []⟩,
  ⟨2, ⟨some 6, .fieldAddr 57 (.tmp 5) 1, 0, none, true⟩, .q, []⟩,
  ⟨3, ⟨some 7, .load 3 (.tmp 6), 3, none, true⟩, .h, []⟩,
  ⟨4, ⟨some 8, .move (.tmp 0), 24, none, true⟩, .q, []⟩,
  ⟨5, ⟨some 9, .nilCheck (.tmp 8), 0, none, true⟩, .q, []⟩,
  ⟨6, ⟨some 10, .fieldAddr 57 (.tmp 9) 0, 0, none, true⟩, .q, []⟩,
  ⟨7, ⟨some 11, .load 22 (.tmp 10), 22, none, true⟩, .h, []⟩,
  ⟨8, ⟨some 12, .call (⟨.builtin .len, #[.tmp 11], #[22]⟩), 3, none, true⟩, .q, []⟩,
  ⟨9, ⟨some 13, .binOp .lss 3 (.tmp 7) (.tmp 12) 3, 4, none, true⟩, .q, []⟩]
theorem dc23_2 : drawC ap (drawOf T.c23 2).toList [0, 1, 2, 3, 4, 5, 6, 7, 8, 9] [[], [0], [0, 1], [0, 1, 2], [], [4], [4, 5], [4, 5, 6], [4, 5, 6, 7], [0, 1, 2, 3, 4, 5, 6, 7, 8]] = some d23_2 := by kernel_rfl
def d23_3 : List DP := [⟨0, ⟨some 14, .move (.tmp 0), 24, none, true⟩, .q, []⟩,
  ⟨1, ⟨some 15, .nilCheck (.tmp 14), 0, none, true⟩, .q, []⟩,
  ⟨2, ⟨some 16, .fieldAddr 57 (.tmp 15) 0, 0, none, true⟩, .q, []⟩,
  ⟨3, ⟨some 17, .load 22 (.tmp 16), 22, none, true⟩, .h, []⟩,
  ⟨4, ⟨some 18, .move (.tmp 0), 24, none, true⟩, .q, []⟩,
  ⟨5, ⟨some 19, .nilCheck (.tmp 18), 0, none, true⟩, .q, []⟩,
  ⟨6, ⟨some 20, .fieldAddr 57 (.tmp 19) 1, 0, none, true⟩, .q, []⟩,
  ⟨7, ⟨some 21, .load 3 (.tmp 20), 3, none, true⟩, .h, []⟩,
  ⟨8, ⟨some 22, .indexAddr 22 (.tmp 17) (.tmp 21), 0, none, true⟩, .q, []⟩,
  ⟨9, ⟨some 23, .load 58 (.tmp 22), 58, none, true⟩, .h, []⟩,
  ⟨10, ⟨some 3, .assign (.tmp 23), 58, none, true⟩, .q, []⟩]
theorem dc23_3 : drawC ap (drawOf T.c23 3).toList [0, 1, 2, 3, 4, 5, 6, 7, 8, 9, 10] [[], [0], [0, 1], [0, 1, 2], [], [4], [4, 5], [4, 5, 6], [0, 1, 2, 3, 4, 5, 6, 7], [0, 1, 2, 3, 4, 5, 6, 7, 8], [0, 1, 2, 3, 4, 5, 6, 7, 8, 9]] = some d23_3 := by kernel_rfl
def d24_1 : List DP := [⟨0, ⟨some 6, .move (.tmp 0), 26, none, true⟩, .q, []⟩,
  ⟨1, ⟨some 7, .call (⟨.value (.func 29), #[.tmp 6], #[26]⟩), 4, none, true⟩, .e, []⟩,
  ⟨2, ⟨some 8, .unOp .not 4 (.tmp 7), 4, none, true⟩, .q, []⟩,
  ⟨3, ⟨some 9, .move (.tmp 8), 4, none, true⟩, .q, []⟩,
  ⟨4, ⟨some 10, .load 30 (.tmp 3), 30, some (some 9), false⟩, .h, []⟩,
  ⟨5, ⟨some 11, .call (⟨.value (.func 30), #[.tmp 10], #[30]⟩), 4, some (some 9), false⟩, .e, []⟩,
  ⟨6, ⟨some 12, .unOp .not 4 (.tmp 11), 4, some (some 9), false⟩, .q, []⟩,
  ⟨7, ⟨some 13, .pick (.tmp 9) (.const (.bool true)) (.tmp 12), 4, none, true⟩, .q, []⟩,
  ⟨8, ⟨some 14, .move (.tmp 13), 4, none, true⟩, .q, []⟩,
  ⟨9, ⟨some 15, .move (.tmp 0), 26, some (some 14), false⟩, .q, []⟩,
  ⟨10, ⟨some 16, .call (⟨.builtin .len, #[.tmp 15], #[26]⟩), 3, some (some 14), false⟩, .q, []⟩,
  ⟨11, ⟨some 17, .binOp .gtr 3 (.tmp 16) (.const (.int .i64 0)) 3, 4, some (some 14), false⟩, .q, []⟩,
  ⟨12, ⟨some 18, .move (.tmp 17), 4, some (some 14), false⟩, .q, []⟩,
  ⟨13, ⟨some 19, .fieldAddr 30 (.tmp 3) 0, 0, some (some 18), true⟩, .q, []⟩,
  ⟨14, ⟨some 20, .load 2 (.tmp 19), 2, some (some 18), true⟩, .h, []⟩,
  ⟨15, ⟨some 21, .move (.tmp 0), 26, some (some 18), true⟩, .q, []⟩,
  ⟨16, ⟨some 22, .move (.tmp 0), 26, some (some 18), true⟩, .q, []⟩,
  ⟨17, ⟨some 23, .call (⟨.builtin .len, #[.tmp 22], #[26]⟩), 3, some (some 18), true⟩, .q, []⟩,
  ⟨18, ⟨some 24, .binOp .sub 3 (.tmp 23) (.const (.int .i64 1)) 3, 3, some (some 18), true⟩, .q, []⟩,
  ⟨19, ⟨some 25, .indexAddr 26 (.tmp 21) (.tmp 24), 0, some (some 18), true⟩, .q, []⟩,
  ⟨20, ⟨some 26, .fieldAddr 30 (.tmp 25) 0, 0, some (some 18), true⟩, .q, []⟩,
  ⟨21, ⟨some 27, .load 2 (.tmp 26), 2, some (some 18), true⟩, .h, []⟩,
  ⟨22, ⟨some 28, .binOp .leq 2 (.tmp 20) (.tmp 27) 2, 4, some (some 18), true⟩, .q, []⟩,
  ⟨23, ⟨some 29, .pick (.tmp 18) (.tmp 28) (.const (.bool false)), 4, some (some 14), false⟩, .q, []⟩,
  ⟨24, ⟨some 30, .pick (.tmp 14) (.const (.bool true)) (.tmp 29), 4, none, true⟩, .q, []⟩]
theorem dc24_1 : drawC ap (drawOf T.c24 1).toList [0, 1, 2, 3, 4, 5, 6, 7, 8, 9, 10, 11, 12, 13, 14, 15, 16, 17, 18, 19, 20, 21, 22, 23, 24] [[], [0], [0, 1], [0, 1, 2], [0, 1, 2, 3], [0, 1, 2, 3, 4], [0, 1, 2, 3, 4, 5], [0, 1, 2, 3, 4, 5, 6], [0, 1, 2, 3, 4, 5, 6, 7], [0, 1, 2, 3, 4, 5, 6, 7, 8], [0, 1, 2, 3, 4, 5, 6, 7, 8, 9], [0, 1, 2, 3, 4, 5, 6, 7, 8, 9, 10], [0, 1, 2, 3, 4, 5, 6, 7, 8, 9, 10, 11], [0, 1, 2, 3, 4, 5, 6, 7, 8, 9, 10, 11, 12], [0, 1, 2, 3, 4, 5, 6, 7, 8, 9, 10, 11, 12, 13], [0, 1, 2, 3, 4, 5, 6, 7, 8, 9, 10, 11, 12], [0, 1, 2, 3, 4, 5, 6, 7, 8, 9, 10, 11, 12], [0, 1, 2, 3, 4, 5, 6, 7, 8, 9, 10, 11, 12, 16], [0, 1, 2, 3, 4, 5, 6, 7, 8, 9, 10, 11, 12, 16, 17], [0, 1, 2, 3, 4, 5, 6, 7, 8, 9, 10, 11, 12, 15, 16, 17, 18], [0, 1, 2, 3, 4, 5, 6, 7, 8, 9, 10, 11, 12, 15, 16, 17, 18, 19], [0, 1, 2, 3, 4, 5, 6, 7, 8, 9, 10, 11, 12, 15, 16, 17, 18, 19, 20], [0, 1, 2, 3, 4, 5, 6, 7, 8, 9, 10, 11, 12, 13, 14, 15, 16, 17, 18, 19, 20, 21], [0, 1, 2, 3, 4, 5, 6, 7, 8, 9, 10, 11, 12, 13, 14, 15, 16, 17, 18, 19, 20, 21, 22], [0, 1, 2, 3, 4, 5, 6, 7, 8, 9, 10, 11, 12, 13, 14, 15, 16, 17, 18, 19, 20, 21, 22, 23]] = some d24_1 := by kernel_rfl
def d24_5 : List DP := [⟨0, ⟨some 34, .buildSlice 26 0 #[], 26, none, true⟩, .a, []⟩,
  ⟨1, ⟨some 35, .move (.tmp 0), 26, none, true⟩, .q, []⟩,
  ⟨3, ⟨some 37, .load 30 (.tmp 3), 30, none, true⟩, .h, [1]⟩,
  ⟨2, ⟨some 36, .call (⟨.builtin .append, #[.tmp 34, .tmp 35], #[26, 26]⟩), 26, none, true⟩, .e, []⟩,
  ⟨4, ⟨some 38, .buildSlice 26 1 #[(0, .tmp 37)], 26, none, true⟩, .a, []⟩,
  ⟨5, ⟨some 39, .call (⟨.builtin .append, #[.tmp 36, .tmp 38], #[26, 26]⟩), 26, none, true⟩, .e, []⟩,
  ⟨6, ⟨some 4, .assign (.tmp 39), 26, none, true⟩, .q, []⟩,
  ⟨7, ⟨some 5, .assign (.const (.int .i64 0)), 40, none, true⟩, .q, []⟩]
theorem dc24_5 : drawC ap (drawOf T.c24 5).toList [0, 1, 3, 2, 4, 5, 6, 7] [[], [], [0, 1], [], [3], [0, 1, 2, 3, 4], [0, 1, 2, 3, 4, 5], [0, 1, 2, 3, 4, 5, 6]] = some d24_5 := by kernel_rfl
def d26_11 : List DP := [⟨0, ⟨some 25, .move (.tmp 7), 4, none, true⟩, .q, []⟩,
  ⟨1, ⟨some 26, .move (.tmp 25), 4, none, true⟩, .q, []⟩,
  ⟨2, ⟨some 27, .move (.tmp 1), 32, some (some 26), false⟩, .q, []⟩,
  ⟨3, ⟨some 28, .move (.tmp 8), 3, some (some 26), false⟩, .q, []⟩,
  ⟨4, ⟨some 29, .indexAddr 32 (.tmp 27) (.tmp 28), 0, some (some 26), false⟩, .q, []⟩,
  ⟨5, ⟨some 30, .load 3 (.tmp 29), 3, some (some 26), false⟩, .h, []⟩,
  ⟨6, ⟨some 31, .move (.tmp 0), 26, some (some 26), false⟩, .q, []⟩,
  ⟨7, ⟨some 32, .move (.tmp 6), 3, some (some 26), false⟩, .q, []⟩,
  ⟨8, ⟨some 33, .indexAddr 26 (.tmp 31) (.tmp 32), 0, some (some 26), false⟩, .q, []⟩,
  ⟨9, ⟨some 34, .fieldAddr 30 (.tmp 33) 1, 0, some (some 26), false⟩, .q, []⟩,
  ⟨10, ⟨some 35, .load 3 (.tmp 34), 3, some (some 26), false⟩, .h, []⟩,
  ⟨11, ⟨some 36, .binOp .eql 3 (.tmp 30) (.tmp 35) 3, 4, some (some 26), false⟩, .q, []⟩,
  ⟨12, ⟨some 37, .pick (.tmp 26) (.const (.bool true)) (.tmp 36), 4, none, true⟩, .q, []⟩,
  ⟨13, ⟨some 7, .assign (.tmp 37), 4, none, true⟩, .q, []⟩]
theorem dc26_11 : drawC ap (drawOf T.c26 11).toList [0, 1, 2, 3, 4, 5, 6, 7, 8, 9, 10, 11, 12, 13] [[], [0], [0, 1], [0, 1], [0, 1, 2, 3], [0, 1, 2, 3, 4], [0, 1], [0, 1], [0, 1, 6, 7], [0, 1, 6, 7, 8], [0, 1, 6, 7, 8, 9], [0, 1, 2, 3, 4, 5, 6, 7, 8, 9, 10], [0, 1, 2, 3, 4, 5, 6, 7, 8, 9, 10, 11], [0, 1, 2, 3, 4, 5, 6, 7, 8, 9, 10, 11, 12]] = some d26_11 := by kernel_rfl
def d28_9 : List DP := [⟨0, ⟨some 37, .move (.tmp 9), 3, none, true⟩, .q, []⟩,
  ⟨1, ⟨some 38, .move (.tmp 7), 26, none, true⟩, .q, []⟩,
  ⟨2, ⟨some 39, .call (⟨.builtin .len, #[.tmp 38], #[26]⟩), 3, none, true⟩, .q, []⟩,
  ⟨3, ⟨some 40, .binOp .lss 3 (.tmp 37) (.tmp 39) 3, 4, none, true⟩, .q, []⟩,
  ⟨4, ⟨some 41, .move (.tmp 40), 4, none, true⟩, .q, []⟩,
  ⟨5, ⟨some 42, .move (.tmp 7), 26, some (some 41), true⟩, .q, []⟩,
  ⟨6, ⟨some 43, .move (.tmp 9), 3, some (some 41), true⟩, .q, []⟩,
  ⟨7, ⟨some 44, .indexAddr 26 (.tmp 42) (.tmp 43), 0, some (some 41), true⟩, .q, []⟩,
  ⟨8, ⟨some 45, .load 30 (.tmp 44), 30, some (some 41), true⟩, .h, []⟩,
  ⟨9, ⟨some 46, .move (.tmp 0), 26, some (some 41), true⟩, .q, []⟩,
  ⟨10, ⟨some 47, .move (.tmp 8), 3, some (some 41), true⟩, .q, []⟩,
  ⟨11, ⟨some 48, .indexAddr 26 (.tmp 46) (.tmp 47), 0, some (some 41), true⟩, .q, []⟩,
  ⟨12, ⟨some 49, .load 30 (.tmp 48), 30, some (some 41), true⟩, .h, []⟩,
  ⟨13, ⟨some 50, .call (⟨.value (.func 42), #[.tmp 45, .tmp 49], #[30, 30]⟩), 4, some (some 41), true⟩, .e, []⟩,
  ⟨14, ⟨some 51, .pick (.tmp 41) (.tmp 50) (.const (.bool false)), 4, none, true⟩, .q, []⟩]
theorem dc28_9 : drawC ap (drawOf T.c28 9).toList [0, 1, 2, 3, 4, 5, 6, 7, 8, 9, 10, 11, 12, 13, 14] [[], [], [1], [0, 1, 2], [0, 1, 2, 3], [0, 1, 2, 3, 4], [0, 1, 2, 3, 4], [0, 1, 2, 3, 4, 5, 6], [0, 1, 2, 3, 4, 5, 6, 7], [0, 1, 2, 3, 4], [0, 1, 2, 3, 4], [0, 1, 2, 3, 4, 9, 10], [0, 1, 2, 3, 4, 9, 10, 11], [0, 1, 2, 3, 4, 5, 6, 7, 8, 9, 10, 11, 12], [0, 1, 2, 3, 4, 5, 6, 7, 8, 9, 10, 11, 12, 13]] = some d28_9 := by kernel_rfl
def d29_6 : List DP := [⟨0, ⟨some 13, .move (.tmp 0), 26, none, true⟩, .q, []⟩,
  ⟨1, ⟨some 14, .move (.tmp 3), 3, none, true⟩, .q, []⟩,
  ⟨2, ⟨some 15, .indexAddr 26 (.tmp 13) (.tmp 14), 0, none, true⟩, .q, []⟩,
  ⟨3, ⟨some 16, .load 30 (.tmp 15), 30, none, true⟩, .h, []⟩,
  ⟨4, ⟨some 17, .call (⟨.value (.func 30), #[.tmp 16], #[30]⟩), 4, none, true⟩, .e, []⟩,
  ⟨5, ⟨some 18, .unOp .not 4 (.tmp 17), 4, none, true⟩, .q, []⟩,
  ⟨6, ⟨some 19, .move (.tmp 18), 4, none, true⟩, .q, []⟩,
  ⟨7, ⟨some 20, .move (.tmp 3), 3, some (some 19), false⟩, .q, []⟩,
  ⟨8, ⟨some 21, .binOp .gtr 3 (.tmp 20) (.const (.int .i64 0)) 3, 4, some (some 19), false⟩, .q, []⟩,
  ⟨9, ⟨some 22, .move (.tmp 21), 4, some (some 19), false⟩, .q, []⟩,
  ⟨10, ⟨some 23, .move (.tmp 0), 26, some (some 22), true⟩, .q, []⟩,
  ⟨11, ⟨some 24, .move (.tmp 3), 3, some (some 22), true⟩, .q, []⟩,
  ⟨12, ⟨some 25, .indexAddr 26 (.tmp 23) (.tmp 24), 0, some (some 22), true⟩, .q, []⟩,
  ⟨13, ⟨some 26, .fieldAddr 30 (.tmp 25) 0, 0, some (some 22), true⟩, .q, []⟩,
  ⟨14, ⟨some 27, .load 2 (.tmp 26), 2, some (some 22), true⟩, .h, []⟩,
  ⟨15, ⟨some 28, .move (.tmp 0), 26, some (some 22), true⟩, .q, []⟩,
  ⟨16, ⟨some 29, .move (.tmp 3), 3, some (some 22), true⟩, .q, []⟩,
  ⟨17, ⟨some 30, .binOp .sub 3 (.tmp 29) (.const (.int .i64 1)) 3, 3, some (some 22), true⟩, .q, []⟩,
  ⟨18, ⟨some 31, .indexAddr 26 (.tmp 28) (.tmp 30), 0, some (some 22), true⟩, .q, []⟩,
  ⟨19, ⟨some 32, .fieldAddr 30 (.tmp 31) 0, 0, some (some 22), true⟩, .q, []⟩,
  ⟨20, ⟨some 33, .load 2 (.tmp 32), 2, some (some 22), true⟩, .h, []⟩,
  ⟨21, ⟨some 34, .binOp .leq 2 (.tmp 27) (.tmp 33) 2, 4, some (some 22), true⟩, .q, []⟩,
  ⟨22, ⟨some 35, .pick (.tmp 22) (.tmp 34) (.const (.bool false)), 4, some (some 19), false⟩, .q, []⟩,
  ⟨23, ⟨some 36, .pick (.tmp 19) (.const (.bool true)) (.tmp 35), 4, none, true⟩, .q, []⟩]
theorem dc29_6 : drawC ap (drawOf T.c29 6).toList [0, 1, 2, 3, 4, 5, 6, 7, 8, 9, 10, 11, 12, 13, 14, 15, 16, 17, 18, 19, 20, 21, 22, 23] [[], [], [0, 1], [0, 1, 2], [0, 1, 2, 3], [0, 1, 2, 3, 4], [0, 1, 2, 3, 4, 5], [0, 1, 2, 3, 4, 5, 6], [0, 1, 2, 3, 4, 5, 6, 7], [0, 1, 2, 3, 4, 5, 6, 7, 8], [0, 1, 2, 3, 4, 5, 6, 7, 8, 9], [0, 1, 2, 3, 4, 5, 6, 7, 8, 9], [0, 1, 2, 3, 4, 5, 6, 7, 8, 9, 10, 11], [0, 1, 2, 3, 4, 5, 6, 7, 8, 9, 10, 11, 12], [0, 1, 2, 3, 4, 5, 6, 7, 8, 9, 10, 11, 12, 13], [0, 1, 2, 3, 4, 5, 6, 7, 8, 9], [0, 1, 2, 3, 4, 5, 6, 7, 8, 9], [0, 1, 2, 3, 4, 5, 6, 7, 8, 9, 16], [0, 1, 2, 3, 4, 5, 6, 7, 8, 9, 15, 16, 17], [0, 1, 2, 3, 4, 5, 6, 7, 8, 9, 15, 16, 17, 18], [0, 1, 2, 3, 4, 5, 6, 7, 8, 9, 15, 16, 17, 18, 19], [0, 1, 2, 3, 4, 5, 6, 7, 8, 9, 10, 11, 12, 13, 14, 15, 16, 17, 18, 19, 20], [0, 1, 2, 3, 4, 5, 6, 7, 8, 9, 10, 11, 12, 13, 14, 15, 16, 17, 18, 19, 20, 21], [0, 1, 2, 3, 4, 5, 6, 7, 8, 9, 10, 11, 12, 13, 14, 15, 16, 17, 18, 19, 20, 21, 22]] = some d29_6 := by kernel_rfl
def d32_11 : List DP := [⟨0, ⟨some 46, .move (.tmp 9), 26, none, true⟩, .q, []⟩,
  ⟨1, ⟨some 47, .move (.tmp 1), 3, none, true⟩, .q, []⟩,
  ⟨2, ⟨some 48, .move (.tmp 7), 3, none, true⟩, .q, []⟩,
  ⟨3, ⟨some 49, .binOp .add 3 (.tmp 47) (.tmp 48) 3, 3, none, true⟩, .q, []⟩,
  ⟨4, ⟨some 50, .slice 26 (.tmp 46) (some (.tmp 49)) none none, 26, none, true⟩, .h, []⟩,
  ⟨5, ⟨some 51, .move (.tmp 0), 26, none, true⟩, .q, []⟩,
  ⟨6, ⟨some 52, .move (.tmp 1), 3, none, true⟩, .q, []⟩,
  ⟨7, ⟨some 53, .slice 26 (.tmp 51) (some (.tmp 52)) none none, 26, none, true⟩, .h, []⟩,
  ⟨8, ⟨some 54, .call (⟨.builtin .copy, #[.tmp 50, .tmp 53], #[26, 26]⟩), 3, none, true⟩, .e, []⟩]
theorem dc32_11 : drawC ap (drawOf T.c32 11).toList [0, 1, 2, 3, 4, 5, 6, 7, 8] [[], [], [], [1, 2], [0, 1, 2, 3], [], [], [5, 6], [0, 1, 2, 3, 4, 5, 6, 7]] = some d32_11 := by kernel_rfl
def d32_15 : List DP := [⟨0, ⟨some 69, .move (.tmp 0), 26, none, true⟩, .q, []⟩,
  ⟨1, ⟨some 70, .move (.tmp 1), 3, none, true⟩, .q, []⟩,
  ⟨2, ⟨some 71, .move (.tmp 7), 3, none, true⟩, .q, []⟩,
  ⟨3, ⟨some 72, .binOp .add 3 (.tmp 70) (.tmp 71) 3, 3, none, true⟩, .q, []⟩,
  ⟨4, ⟨some 73, .slice 26 (.tmp 69) (some (.tmp 72)) none none, 26, none, true⟩, .h, []⟩,
  ⟨5, ⟨some 74, .move (.tmp 0), 26, none, true⟩, .q, []⟩,
  ⟨6, ⟨some 75, .move (.tmp 1), 3, none, true⟩, .q, []⟩,
  ⟨7, ⟨some 76, .slice 26 (.tmp 74) (some (.tmp 75)) none none, 26, none, true⟩, .h, []⟩,
  ⟨8, ⟨some 77, .call (⟨.builtin .copy, #[.tmp 73, .tmp 76], #[26, 26]⟩), 3, none, true⟩, .e, []⟩]
theorem dc32_15 : drawC ap (drawOf T.c32 15).toList [0, 1, 2, 3, 4, 5, 6, 7, 8] [[], [], [], [1, 2], [0, 1, 2, 3], [], [], [5, 6], [0, 1, 2, 3, 4, 5, 6, 7]] = some d32_15 := by kernel_rfl
def d37_5 : List DP := [⟨0, ⟨some 20, .move (.tmp 0), 26, none, true⟩, .q, []⟩,
  ⟨1, ⟨some 21, .move (.tmp 1), 3, none, true⟩, .q, []⟩,
  ⟨2, ⟨some 22, .slice 26 (.tmp 20) none (some (.tmp 21)) none, 26, none, true⟩, .h, []⟩,
  ⟨3, ⟨some 23, .move (.tmp 0), 26, none, true⟩, .q, []⟩,
  ⟨4, ⟨some 24, .move (.tmp 2), 3, none, true⟩, .q, []⟩,
  ⟨5, ⟨some 25, .slice 26 (.tmp 23) (some (.tmp 24)) none none, 26, none, true⟩, .h, []⟩,
  ⟨6, ⟨some 26, .call (⟨.builtin .append, #[.tmp 22, .tmp 25], #[26, 26]⟩), 26, none, true⟩, .e, []⟩,
  ⟨7, ⟨some 0, .assign (.tmp 26), 26, none, true⟩, .q, []⟩]
theorem dc37_5 : drawC ap (drawOf T.c37 5).toList [0, 1, 2, 3, 4, 5, 6, 7] [[], [], [0, 1], [], [], [3, 4], [0, 1, 2, 3, 4, 5], [0, 1, 2, 3, 4, 5, 6]] = some d37_5 := by kernel_rfl
def d41_11 : List DP := [⟨0, ⟨some 43, .fieldAddr 50 (.tmp 7) 1, 0, none, true⟩, .q, []⟩,
  ⟨1, ⟨some 44, .load 2 (.tmp 43), 2, none, true⟩, .h, []⟩,
  ⟨2, ⟨some 45, .move (.tmp 0), 26, none, true⟩, .q, []⟩,
  ⟨3, ⟨some 46, .move (.tmp 8), 3, none, true⟩, .q, []⟩,
  ⟨4, ⟨some 47, .indexAddr 26 (.tmp 45) (.tmp 46), 0, none, true⟩, .q, []⟩,
  ⟨5, ⟨some 48, .fieldAddr 30 (.tmp 47) 4, 0, none, true⟩, .q, []⟩,
  ⟨6, ⟨some 49, .load 2 (.tmp 48), 2, none, true⟩, .h, []⟩,
  ⟨7, ⟨some 50, .binOp .add 2 (.tmp 44) (.tmp 49) 2, 2, none, true⟩, .q, []⟩,
  ⟨8, ⟨some 51, .fieldAddr 50 (.tmp 7) 1, 0, none, true⟩, .q, []⟩,
  ⟨9, ⟨none, .store 2 (.tmp 51) (.tmp 50), 0, none, true⟩, .e, []⟩]
theorem dc41_11 : drawC ap (drawOf T.c41 11).toList [0, 1, 2, 3, 4, 5, 6, 7, 8, 9] [[], [0], [], [], [2, 3], [2, 3, 4], [2, 3, 4, 5], [0, 1, 2, 3, 4, 5, 6], [0, 1, 2, 3, 4, 5, 6, 7], [0, 1, 2, 3, 4, 5, 6, 7, 8]] = some d41_11 := by kernel_rfl
def d41_12 : List DP := [⟨0, ⟨some 52, .fieldAddr 50 (.tmp 7) 2, 0, none, true⟩, .q, []⟩,
  ⟨1, ⟨some 53, .load 2 (.tmp 52), 2, none, true⟩, .h, []⟩,
  ⟨2, ⟨some 54, .move (.tmp 0), 26, none, true⟩, .q, []⟩,
  ⟨3, ⟨some 55, .move (.tmp 8), 3, none, true⟩, .q, []⟩,
  ⟨4, ⟨some 56, .indexAddr 26 (.tmp 54) (.tmp 55), 0, none, true⟩, .q, []⟩,
  ⟨5, ⟨some 57, .fieldAddr 30 (.tmp 56) 4, 0, none, true⟩, .q, []⟩,
  ⟨6, ⟨some 58, .load 2 (.tmp 57), 2, none, true⟩, .h, []⟩,
  ⟨7, ⟨some 59, .binOp .add 2 (.tmp 53) (.tmp 58) 2, 2, none, true⟩, .q, []⟩,
  ⟨8, ⟨some 60, .fieldAddr 50 (.tmp 7) 2, 0, none, true⟩, .q, []⟩,
  ⟨9, ⟨none, .store 2 (.tmp 60) (.tmp 59), 0, none, true⟩, .e, []⟩]
theorem dc41_12 : drawC ap (drawOf T.c41 12).toList [0, 1, 2, 3, 4, 5, 6, 7, 8, 9] [[], [0], [], [], [2, 3], [2, 3, 4], [2, 3, 4, 5], [0, 1, 2, 3, 4, 5, 6], [0, 1, 2, 3, 4, 5, 6, 7], [0, 1, 2, 3, 4, 5, 6, 7, 8]] = some d41_12 := by kernel_rfl
def d48_3 : List DP := [⟨0, ⟨some 14, .move (.tmp 0), 26, none, true⟩, .q, []⟩,
  ⟨1, ⟨some 15, .move (.tmp 2), 3, none, true⟩, .q, []⟩,
  ⟨2, ⟨some 16, .move (.tmp 0), 26, none, true⟩, .q, []⟩,
  ⟨3, ⟨some 17, .move (.tmp 3), 3, none, true⟩, .q, []⟩,
  ⟨4, ⟨some 18, .move (.tmp 0), 26, none, true⟩, .q, []⟩,
  ⟨5, ⟨some 19, .move (.tmp 3), 3, none, true⟩, .q, []⟩,
  ⟨6, ⟨some 20, .indexAddr 26 (.tmp 18) (.tmp 19), 0, none, true⟩, .q, []⟩,
  ⟨7, ⟨some 21, .load 30 (.tmp 20), 30, none, true⟩, .h, []⟩,
  ⟨8, ⟨some 22, .move (.tmp 0), 26, none, true⟩, .q, []⟩,
  ⟨9, ⟨some 23, .move (.tmp 2), 3, none, true⟩, .q, []⟩,
  ⟨10, ⟨some 24, .indexAddr 26 (.tmp 22) (.tmp 23), 0, none, true⟩, .q, []⟩,
  ⟨11, ⟨some 25, .load 30 (.tmp 24), 30, none, true⟩, .h, []⟩,
  ⟨12, ⟨some 26, .indexAddr 26 (.tmp 14) (.tmp 15), 0, none, true⟩, .q, []⟩,
  ⟨13, ⟨none, .store 30 (.tmp 26) (.tmp 21), 0, none, true⟩, .e, []⟩,
  ⟨14, ⟨some 27, .indexAddr 26 (.tmp 16) (.tmp 17), 0, none, true⟩, .q, []⟩,
  ⟨15, ⟨none, .store 30 (.tmp 27) (.tmp 25), 0, none, true⟩, .e, []⟩]
theorem dc48_3 : drawC ap (drawOf T.c48 3).toList [0, 1, 2, 3, 4, 5, 6, 7, 8, 9, 10, 11, 12, 13, 14, 15] [[], [], [], [], [], [], [4, 5], [4, 5, 6], [], [], [8, 9], [8, 9, 10], [0, 1, 4, 5, 6, 7, 8, 9, 10, 11], [0, 1, 4, 5, 6, 7, 8, 9, 10, 11, 12], [0, 1, 2, 3, 4, 5, 6, 7, 8, 9, 10, 11, 12, 13], [0, 1, 2, 3, 4, 5, 6, 7, 8, 9, 10, 11, 12, 13, 14]] = some d48_3 := by kernel_rfl
end Go.Proofs.Ytpinfljbccjbkaa.T
end
section
/-! Plain laws of numbers: the zigzag, the bytes of a number, and how they are read. Nothing of the program. -/
set_option linter.unusedVariables false
set_option linter.unusedSimpArgs false
namespace Go.Ab
theorem iand_bits {k : IntKind} {x y : Int} : iand k x y = Go.bits .and k x y := rfl
theorem ior_bits {k : IntKind} {x y : Int} : ior k x y = Go.bits .or k x y := rfl
theorem ixor_bits {k : IntKind} {x y : Int} : ixor k x y = Go.bits .xor k x y := rfl
theorem wu64 (n : Int) : IntKind.u64.wrap n = n % 18446744073709551616 := by simp [IntKind.wrap, IntKind.bits, IntKind.signed]
theorem wraps_u64 (n : Int) (h₀ : 0 ≤ n) (h₁ : n < 2 ^ 64) : IntKind.u64.wrap n = n := by rw [wu64]; omega
theorem or128 (x : Int) : ior .u8 (IntKind.u8.wrap x) 128 = x % 128 + 128 := by
  have key : ∀ a : Fin 256, ior .u8 (a.val : Int) 128 = (a.val : Int) % 128 + 128 := by decide +kernel
  have h := key ⟨(x % 256).toNat, by omega⟩
  have e : (((x % 256).toNat : Nat) : Int) = x % 256 := by omega
  simp only [e] at h
  rw [wrap_u8, h]
  omega
theorem and127_u8 (x : Int) (h0 : 0 ≤ x) (h1 : x < 256) : iand .u8 x 127 = x % 128 := by
  have key : ∀ a : Fin 256, iand .u8 (a.val : Int) 127 = (a.val : Int) % 128 := by decide +kernel
  have h := key ⟨x.toNat, by omega⟩
  have e : ((x.toNat : Nat) : Int) = x := by omega
  simp only [e] at h
  exact h
theorem and127_u64 (x : Int) (h0 : 0 ≤ x) (h1 : x < 18446744073709551616) : iand .u64 x 127 = x % 128 := by
  have := bits_mask .u64 64 (by decide) wraps_u64 7 (by decide) x h0 (by omega)
  simpa [iand_bits] using this
theorem and1_u64 (x : Int) (h0 : 0 ≤ x) (h1 : x < 18446744073709551616) : iand .u64 x 1 = x % 2 := by
  have := bits_mask .u64 64 (by decide) wraps_u64 1 (by decide) x h0 (by omega)
  simpa [iand_bits] using this
theorem or1_u64 (x : Int) (h0 : 0 ≤ x) (h1 : x < 18446744073709551616) (h2 : x % 2 = 0) : ior .u64 x 1 = x + 1 := by
  have := bits_join .u64 64 (by decide) wraps_u64 1 x 1 h0 (by omega) (by omega) (by decide) (by decide) (by decide)
  simpa [ior_bits] using this
theorem xor_all (a : Nat) (ha : a < 2 ^ 64) : a ^^^ 18446744073709551615 = 18446744073709551615 - a := by
  have h : (BitVec.ofNat 64 a ^^^ BitVec.allOnes 64) = ~~~ BitVec.ofNat 64 a := BitVec.xor_allOnes
  have h2 := congrArg BitVec.toNat h
  rw [BitVec.toNat_xor, BitVec.toNat_not, BitVec.toNat_allOnes, BitVec.toNat_ofNat, Nat.mod_eq_of_lt ha] at h2
  exact h2
theorem xor0_u64 (x : Int) (h0 : 0 ≤ x) (h1 : x < 18446744073709551616) : ixor .u64 x 0 = x := by
  obtain ⟨a, rfl⟩ := Int.eq_ofNat_of_zero_le h0
  have h := Go.bits_xor_u64_nat a 0 (by omega) (by decide)
  simpa [ixor_bits] using h
theorem xorm_u64 (x : Int) (h0 : 0 ≤ x) (h1 : x < 18446744073709551616) : ixor .u64 x 18446744073709551615 = 18446744073709551615 - x := by
  obtain ⟨a, rfl⟩ := Int.eq_ofNat_of_zero_le h0
  have ha : a < 2 ^ 64 := by omega
  have h := Go.bits_xor_u64_nat a 18446744073709551615 (by omega) (by decide)
  rw [show ((18446744073709551615 : Nat) : Int) = 18446744073709551615 from rfl] at h
  rw [ixor_bits, h, xor_all a ha]
  omega
theorem xor_i64_nat (a b : Nat) (ha : a < 2 ^ 64) (hb : b < 2 ^ 64) (x y : Int) (hx : BitVec.ofInt 64 x = BitVec.ofNat 64 a) (hy : BitVec.ofInt 64 y = BitVec.ofNat 64 b) : ixor .i64 x y = IntKind.i64.wrap ((a ^^^ b : Nat) : Int) := by
  show IntKind.i64.wrap ((BitVec.ofInt 64 x ^^^ BitVec.ofInt 64 y).toNat : Int) = _
  rw [hx, hy, BitVec.toNat_xor, BitVec.toNat_ofNat, BitVec.toNat_ofNat, Nat.mod_eq_of_lt ha, Nat.mod_eq_of_lt hb]
theorem xor0_i64 (x : Int) (h0 : 0 ≤ x) (h1 : x < 9223372036854775808) : ixor .i64 x 0 = x := by
  obtain ⟨a, rfl⟩ := Int.eq_ofNat_of_zero_le h0
  rw [xor_i64_nat a 0 (by omega) (by decide) a 0 (BitVec.ofInt_natCast ..) (by decide), Nat.xor_zero, wrap_i64 (by omega) (by omega)]
theorem xorm_i64 (x : Int) (h0 : 0 ≤ x) (h1 : x < 9223372036854775808) : ixor .i64 x (-1) = -x - 1 := by
  obtain ⟨a, rfl⟩ := Int.eq_ofNat_of_zero_le h0
  rw [xor_i64_nat a 18446744073709551615 (by omega) (by decide) a (-1) (BitVec.ofInt_natCast ..) (by decide), xor_all a (by omega), IntKind.wrap_i64]
  omega
/-- Disjoint bits. -/
theorem or_high (x y p : Int) (i : Nat) (hi : i ≤ 64) (hp : p = 2 ^ i) (hx0 : 0 ≤ x) (hx : x < p) (hy0 : 0 ≤ y) (hy : y < 18446744073709551616) (hm : y % p = 0) : ior .u64 x y = x + y := by
  subst hp
  have hle : (2 : Int) ^ i ≤ 18446744073709551616 := by
    have h1 : 2 ^ i ≤ 2 ^ 64 := Nat.pow_le_pow_right (by decide) hi
    have h2 : ((2 ^ i : Nat) : Int) ≤ ((2 ^ 64 : Nat) : Int) := Int.ofNat_le.2 h1
    rw [Int.natCast_pow] at h2
    exact h2
  have h := bits_join .u64 64 (by decide) wraps_u64 i y x hy0 hm (by omega) hx0 hx (by omega)
  have hc : ior .u64 x y = Go.bits .or .u64 y x := by
    unfold ior Go.bits
    simp only [BitVec.or_comm]
  rw [hc, h]
  omega

/-- The zigzag. -/
def zig (n : Int) : Int := if 0 ≤ n then 2 * n else -(2 * n) - 1
def unz (u : Int) : Int := if u % 2 = 0 then u / 2 else -(u / 2) - 1
theorem zig_nonneg (n : Int) : 0 ≤ zig n := by unfold zig; split <;> omega
theorem zig_lt (n : Int) (h0 : -9223372036854775808 ≤ n) (h1 : n ≤ 9223372036854775807) : zig n < 18446744073709551616 := by unfold zig; split <;> omega
theorem unz_zig (n : Int) : unz (zig n) = n := by unfold zig unz; split <;> split <;> omega
theorem zig_unz (u : Int) (h : 0 ≤ u) : zig (unz u) = u := by unfold zig unz; split <;> split <;> omega
theorem unz_range (u : Int) (h0 : 0 ≤ u) (h1 : u < 18446744073709551616) : -9223372036854775808 ≤ unz u ∧ unz u ≤ 9223372036854775807 := by unfold unz; split <;> omega
theorem shl1 (x : Int) : ishl .u64 x 1 = (x * 2) % 18446744073709551616 := by
  unfold ishl
  rw [wu64]
  rfl
theorem shr1 (x : Int) : ishr .u64 x 1 = x / 2 := by
  show x.fdiv 2 = x / 2
  rw [Int.fdiv_eq_ediv_of_nonneg _ (by decide)]
theorem shr7 (x : Int) : ishr .u64 x 7 = x / 128 := by
  show x.fdiv 128 = x / 128
  rw [Int.fdiv_eq_ediv_of_nonneg _ (by decide)]
theorem shr63 (x : Int) : ishr .i64 x 63 = x / 9223372036854775808 := by
  show x.fdiv 9223372036854775808 = x / 9223372036854775808
  rw [Int.fdiv_eq_ediv_of_nonneg _ (by decide)]
/-- As the program makes it. -/
theorem zig_go (n : Int) (h0 : -9223372036854775808 ≤ n) (h1 : n ≤ 9223372036854775807) :
    ixor .u64 (ishl .u64 (IntKind.u64.wrap n) 1) (IntKind.u64.wrap (ishr .i64 n 63)) = zig n := by
  rw [shl1, shr63]
  simp only [wu64]
  by_cases h : 0 ≤ n
  · have e1 : n / 9223372036854775808 % 18446744073709551616 = 0 := by omega
    rw [e1, xor0_u64 _ (by omega) (by omega)]
    unfold zig; rw [if_pos h]; omega
  · have e1 : n / 9223372036854775808 % 18446744073709551616 = 18446744073709551615 := by omega
    rw [e1, xorm_u64 _ (by omega) (by omega)]
    unfold zig; rw [if_neg h]; omega
/-- As the reference makes it. -/
theorem zig_ref_neg (n : Int) (h0 : -9223372036854775808 ≤ n) (h1 : n < 0) :
    ior .u64 (ishl .u64 (IntKind.u64.wrap (IntKind.i64.wrap (-(IntKind.i64.wrap (n + 1))))) 1) 1 = zig n := by
  rw [wrap_i64 (x := n + 1) (by omega) (by omega), wrap_i64 (by omega) (by omega), shl1]
  simp only [wu64]
  have e2 : -(n + 1) % 18446744073709551616 * 2 % 18446744073709551616 = 2 * (-(n + 1)) := by omega
  rw [e2, or1_u64 _ (by omega) (by omega) (by omega)]
  unfold zig; rw [if_neg (by omega)]; omega
theorem zig_ref_pos (n : Int) (h0 : 0 ≤ n) (h1 : n ≤ 9223372036854775807) : ishl .u64 (IntKind.u64.wrap n) 1 = zig n := by
  rw [shl1]
  simp only [wu64]
  unfold zig; rw [if_pos h0]; omega
/-- As the program takes it back. -/
theorem unz_go (v : Int) (h0 : 0 ≤ v) (h1 : v < 18446744073709551616) : ixor .i64 (IntKind.i64.wrap (ishr .u64 v 1)) (IntKind.i64.wrap (-(IntKind.i64.wrap (iand .u64 v 1)))) = unz v := by
  rw [and1_u64 v h0 h1, shr1]
  have e1 : IntKind.i64.wrap (v / 2) = v / 2 := wrap_i64 (by omega) (by omega)
  rw [e1]
  unfold unz
  by_cases h : v % 2 = 0
  · have e2 : IntKind.i64.wrap (-(IntKind.i64.wrap (v % 2))) = 0 := by rw [h]; decide
    rw [if_pos h, e2, xor0_i64 _ (by omega) (by omega)]
  · have e3 : v % 2 = 1 := by omega
    have e2 : IntKind.i64.wrap (-(IntKind.i64.wrap (v % 2))) = -1 := by rw [e3]; decide
    rw [if_neg h, e2, xorm_i64 _ (by omega) (by omega)]
theorem unz_ref_odd (v : Int) (h0 : 0 ≤ v) (h1 : v < 18446744073709551616) (h : iand .u64 v 1 = 1) : IntKind.i64.wrap (IntKind.i64.wrap (-(IntKind.i64.wrap (ishr .u64 v 1))) - 1) = unz v := by
  rw [and1_u64 v h0 h1] at h
  rw [shr1, wrap_i64 (x := v / 2) (by omega) (by omega), wrap_i64 (x := -(v / 2)) (by omega) (by omega), wrap_i64 (by omega) (by omega)]
  unfold unz; rw [if_neg (by omega)]
theorem unz_ref_even (v : Int) (h0 : 0 ≤ v) (h1 : v < 18446744073709551616) (h : ¬ iand .u64 v 1 = 1) : IntKind.i64.wrap (ishr .u64 v 1) = unz v := by
  rw [and1_u64 v h0 h1] at h
  rw [shr1, wrap_i64 (x := v / 2) (by omega) (by omega)]
  unfold unz; rw [if_pos (by omega)]

/-- A number's bytes, at most f + 1 of them. -/
def vb : Nat → Int → List Int
  | 0, u => [u]
  | f + 1, u => if u > 127 then (u % 128 + 128) :: vb f (u / 128) else [u]
theorem vb_pos (f : Nat) (u : Int) : 0 < (vb f u).length := by
  cases f <;> simp only [vb]
  · simp
  · split <;> simp
theorem vb_le (f : Nat) : ∀ u, (vb f u).length ≤ f + 1 := by
  induction f with
  | zero => intro u; simp [vb]
  | succ f ih =>
    intro u
    simp only [vb]
    split
    · have := ih (u / 128); simp; omega
    · simp
/-- 128 to the f + 1. -/
def pw : Nat → Int
  | 0 => 128
  | f + 1 => pw f * 128
theorem pw_succ (f : Nat) : pw (f + 1) = pw f * 128 := rfl
theorem pw_nine : pw 9 = 1180591620717411303424 := rfl
theorem vb_byte (f : Nat) : ∀ u, 0 ≤ u → u < pw f → Byt (vb f u) := by
  induction f with
  | zero =>
    intro u h0 h1 x hx
    simp [vb] at hx
    subst hx
    simp only [pw] at h1
    omega
  | succ f ih =>
    intro u h0 h1 x hx
    rw [pw_succ] at h1
    simp only [vb] at hx
    split at hx
    · rcases List.mem_cons.1 hx with rfl | hx
      · omega
      · exact ih (u / 128) (by omega) (by omega) x hx
    · simp at hx; subst hx; omega
/-- What an int64 can hold. -/
def I64 (n : Int) : Prop := -9223372036854775808 ≤ n ∧ n ≤ 9223372036854775807
/-- A number's bytes. -/
def enc (n : Int) : List Int := vb 9 (zig n)
theorem enc_len (n : Int) : 0 < (enc n).length ∧ (enc n).length ≤ 10 := ⟨vb_pos _ _, vb_le _ _⟩
theorem enc_byt {n : Int} (h : I64 n) : Byt (enc n) := vb_byte 9 (zig n) (zig_nonneg n) (by have := zig_lt n h.1 h.2; rw [pw_nine]; omega)
/-- 2 to the 7 i. -/
def pp : Nat → Int
  | 0 => 1
  | i + 1 => pp i * 128
theorem pp_eq (i : Nat) : pp i = 2 ^ (7 * i) := by
  induction i with
  | zero => rfl
  | succ i ih =>
    show pp i * 128 = _
    rw [ih, show 7 * (i + 1) = 7 * i + 7 by omega, Int.pow_add]
    rfl
theorem pp_pos (i : Nat) : 0 < pp i := by rw [pp_eq]; exact Int.pow_pos (by decide)
theorem split7 (u p : Int) : u % 128 * p + u / 128 * (p * 128) = u * p := by
  have h3 : u % 128 + 128 * (u / 128) = u := Int.emod_add_mul_ediv ..
  have h4 : u % 128 * p + u / 128 * (p * 128) = (u % 128 + 128 * (u / 128)) * p := by
    rw [Int.add_mul]
    congr 1
    rw [Int.mul_comm 128 (u / 128), Int.mul_assoc, Int.mul_comm 128 p]
  rw [h4, h3]
/-- Seven bits more. -/
def more (i : Nat) (x c : Int) : Int := x + (c % 128 * pp i) % 18446744073709551616
theorem pp_dvd {i : Nat} (hi : i ≤ 9) : ∃ q : Int, 18446744073709551616 = pp i * q := by
  refine ⟨2 ^ (64 - 7 * i), ?_⟩
  rw [pp_eq, ← Int.pow_add, show 7 * i + (64 - 7 * i) = 64 by omega]
  rfl
theorem pp_le {i : Nat} (hi : i ≤ 9) : pp i ≤ 9223372036854775808 := by
  rw [pp_eq]
  have h1 : 2 ^ (7 * i) ≤ 2 ^ 63 := Nat.pow_le_pow_right (by decide) (by omega)
  have h2 : ((2 ^ (7 * i) : Nat) : Int) ≤ ((2 ^ 63 : Nat) : Int) := Int.ofNat_le.2 h1
  rw [Int.natCast_pow] at h2
  exact h2
theorem more_hi {i : Nat} (hi : i ≤ 9) {x c : Int} (hx0 : 0 ≤ x) (hx : x < pp i) : 0 ≤ more i x c ∧ more i x c < 18446744073709551616 := by
  have hp := pp_pos i
  have hm : ((c % 128 * pp i) % 18446744073709551616) % pp i = 0 := by
    rw [Int.emod_emod_of_dvd _ (pp_dvd hi), Int.mul_emod_left]
  have h0 : 0 ≤ (c % 128 * pp i) % 18446744073709551616 := Int.emod_nonneg _ (by decide)
  have h1 : (c % 128 * pp i) % 18446744073709551616 < 18446744073709551616 := Int.emod_lt_of_pos _ (by decide)
  unfold more
  refine ⟨by omega, ?_⟩
  generalize (c % 128 * pp i) % 18446744073709551616 = y at hm h0 h1
  obtain ⟨q, e⟩ := pp_dvd hi
  have d1 : pp i ∣ 18446744073709551616 - y := Int.dvd_sub ⟨q, e⟩ (Int.dvd_of_emod_eq_zero hm)
  have := Int.le_of_dvd (by omega) d1
  omega
theorem more_small {i : Nat} (hi : i ≤ 8) (x : Int) {c : Int} : more i x c = x + c % 128 * pp i := by
  have hp := pp_pos i
  have h1 : pp i ≤ 72057594037927936 := by
    rw [pp_eq]
    have h1 : 2 ^ (7 * i) ≤ 2 ^ 56 := Nat.pow_le_pow_right (by decide) (by omega)
    have h2 : ((2 ^ (7 * i) : Nat) : Int) ≤ ((2 ^ 56 : Nat) : Int) := Int.ofNat_le.2 h1
    rw [Int.natCast_pow] at h2
    exact h2
  have h5 : c % 128 * pp i ≤ 127 * pp i := Int.mul_le_mul_of_nonneg_right (by omega) (by omega)
  have hge : 0 ≤ c % 128 * pp i := Int.mul_nonneg (by omega) (by omega)
  unfold more
  rw [Int.emod_eq_of_lt hge (by omega)]
theorem more_lt {i : Nat} (hi : i ≤ 8) {x c : Int} (hx0 : 0 ≤ x) (hx : x < pp i) : 0 ≤ more i x c ∧ more i x c < pp (i + 1) := by
  have hp := pp_pos i
  have h5 : c % 128 * pp i ≤ 127 * pp i := Int.mul_le_mul_of_nonneg_right (by omega) (by omega)
  have hge : 0 ≤ c % 128 * pp i := Int.mul_nonneg (by omega) (by omega)
  have hp1 : pp (i + 1) = pp i * 128 := rfl
  rw [more_small hi, hp1]
  omega
/-- As both make it. -/
theorem or_step {i : Nat} (hi : i ≤ 9) {x c : Int} (hx0 : 0 ≤ x) (hx : x < pp i) (hc0 : 0 ≤ c) (hc : c < 256) {z : Int} (hz : z = 7 * (i : Int)) :
    ior .u64 x (ishl .u64 (IntKind.u64.wrap (iand .u8 c 127)) z) = more i x c := by
  subst hz
  have hs : ishl .u64 (IntKind.u64.wrap (iand .u8 c 127)) (7 * (i : Int)) = (c % 128 * pp i) % 18446744073709551616 := by
    rw [and127_u8 c hc0 hc, wu64, Int.emod_eq_of_lt (a := c % 128) (by omega) (by omega)]
    unfold ishl
    have e2 : min (7 * (i : Int)).toNat IntKind.u64.bits = 7 * i := by
      simp [IntKind.bits]; omega
    rw [e2, wu64, pp_eq]
  rw [hs]
  have hm : ((c % 128 * pp i) % 18446744073709551616) % pp i = 0 := by
    rw [Int.emod_emod_of_dvd _ (pp_dvd hi), Int.mul_emod_left]
  exact or_high x _ (pp i) (7 * i) (by omega) (pp_eq i) hx0 hx (Int.emod_nonneg _ (by decide)) (Int.emod_lt_of_pos _ (by decide)) hm
/-- A number is read, from byte i on; x is what there is yet. st: each number in just one way. -/
def rdn (st : Bool) : List Int → Nat → Int → Option (Int × Nat)
  | [], _, _ => none
  | c :: l, i, x => if 10 ≤ i then none else if st = true ∧ (i = 9 ∧ 1 < c ∨ c = 0 ∧ 0 < i) then none else if c < 128 then some (unz (more i x c), i + 1) else rdn st l (i + 1) (more i x c)
theorem rdn_ten (st : Bool) (l : List Int) {i : Nat} (hi : 10 ≤ i) (x : Int) : rdn st l i x = none := by
  cases l with
  | nil => rfl
  | cons c l => simp only [rdn]; rw [if_pos hi]
theorem rdn_strict : ∀ (l : List Int) (i : Nat) (x : Int) (r : Int × Nat), rdn true l i x = some r → rdn false l i x = some r
  | [], _, _, _, h => by cases h
  | c :: l, i, x, r, h => by
    simp only [rdn] at h ⊢
    split at h
    · cases h
    rename_i h1
    rw [if_neg h1]
    split at h
    · cases h
    rw [if_neg (by simp)]
    split at h
    · rename_i h3; rw [if_pos h3]; exact h
    · rename_i h3; rw [if_neg h3]; exact rdn_strict l _ _ _ h
/-- How far it goes. -/
theorem rdn_far (st : Bool) : ∀ (l : List Int) (i : Nat) (x : Int) (v : Int) (k : Nat), rdn st l i x = some (v, k) → 0 ≤ x → x < pp i → i < k ∧ k ≤ i + l.length ∧ k ≤ 10 ∧ I64 v
  | [], _, _, _, _, h, _, _ => by cases h
  | c :: l, i, x, v, k, h, h0, h1 => by
    simp only [rdn] at h
    split at h
    · cases h
    rename_i h2
    split at h
    · cases h
    split at h
    · have hm := more_hi (i := i) (by omega) (c := c) h0 h1
      have hu := unz_range _ hm.1 hm.2
      injection h with h
      injection h with e1 e2
      subst e1 e2
      simp only [List.length_cons]
      exact ⟨by omega, by omega, by omega, hu⟩
    · by_cases h9 : i ≤ 8
      · have hm := more_lt h9 (c := c) h0 h1
        have := rdn_far st l (i + 1) _ v k h hm.1 hm.2
        simp only [List.length_cons]
        exact ⟨by omega, by omega, this.2.2.1, this.2.2.2⟩
      · rw [rdn_ten st l (by omega)] at h
        cases h
theorem rdn_enc (st : Bool) (f : Nat) : ∀ (i : Nat) (x u : Int) (rest : List Int), f + i = 9 → 0 ≤ u → u < pw f → (0 < i → 0 < u) → x + u * pp i < 18446744073709551616 → 0 ≤ x → x < pp i →
    rdn st (vb f u ++ rest) i x = some (unz (x + u * pp i), i + (vb f u).length) := by
  induction f with
  | zero =>
    intro i x u rest hf h0 h1 hz h2 hx0 hx1
    obtain rfl : i = 9 := by clear h0 h1 h2 hx0 hx1 hz; omega
    have h99 : pp 9 = 9223372036854775808 := by decide
    simp only [pw] at h1
    rw [h99] at h2
    have hu : u ≤ 1 := by omega
    simp only [vb, List.cons_append, rdn]
    rw [if_neg (by omega), if_neg (by have := hz (by omega); omega), if_pos (by omega)]
    unfold more
    rw [h99, Int.emod_eq_of_lt (a := u) (by omega) (by omega), Int.emod_eq_of_lt (b := 18446744073709551616) (by omega) (by omega)]
    simp
  | succ f ih =>
    intro i x u rest hf h0 h1 hz h2 hx0 hx1
    have hi8 : i ≤ 8 := by clear h0 h1 h2 hx0 hx1; omega
    rw [pw_succ] at h1
    have hpp := pp_pos i
    simp only [vb]
    by_cases hu : u > 127
    · rw [if_pos hu]
      have hm : (u % 128 + 128) % 128 = u % 128 := by omega
      have hs := split7 u (pp i)
      have hp1 : pp (i + 1) = pp i * 128 := rfl
      have h5 : u % 128 * pp i ≤ 127 * pp i := Int.mul_le_mul_of_nonneg_right (by omega) (by omega)
      have hge : 0 ≤ (u % 128) * pp i := Int.mul_nonneg (by omega) (by omega)
      simp only [List.cons_append, rdn]
      rw [if_neg (by clear h2 hs h5; omega), if_neg (by clear h2 hs h5; omega), if_neg (by clear h2 hs h5; omega), more_small hi8, hm]
      rw [ih (i + 1) (x + u % 128 * pp i) (u / 128) rest (by clear h2 hs h5; omega) (by clear h2 hs h5; omega) (by clear h2 hs h5; omega) (fun _ => by clear h2 hs h5; omega) (by rw [hp1]; clear h5 hge h1 hx0 hx1; omega) (by clear hs h5 h2; omega) (by rw [hp1]; clear hs h2; omega), hp1]
      rw [show x + u % 128 * pp i + u / 128 * (pp i * 128) = x + u * pp i by omega, List.length_cons, show i + 1 + (vb f (u / 128)).length = i + ((vb f (u / 128)).length + 1) by omega]
    · rw [if_neg hu]
      simp only [List.cons_append, rdn]
      rw [if_neg (by clear h2; omega), if_neg (fun h => by clear h2 h1 hx0 hx1; rcases h.2 with h | h; omega; have := hz h.2; omega), if_pos (by clear h2; omega), more_small hi8, Int.emod_eq_of_lt h0 (by clear h2; omega)]
      rfl
theorem rdn_one (st : Bool) {v : Int} (hv : I64 v) (rest : List Int) : rdn st (enc v ++ rest) 0 0 = some (v, (enc v).length) := by
  have := zig_lt v hv.1 hv.2
  have h := rdn_enc st 9 0 0 (zig v) rest rfl (zig_nonneg v) (by rw [pw_nine]; omega) (by omega) (by simp only [pp]; omega) (by omega) (by decide)
  simp [pp, unz_zig] at h
  exact h
theorem rdn_any (f : Nat) : ∀ (l : List Int) (i : Nat) (x v : Int) (k : Nat), Byt l → f + i = 9 → 0 ≤ x → x < pp i → rdn true l i x = some (v, k) →
    ∃ u, 0 ≤ u ∧ (0 < i → 0 < u) ∧ v = unz (x + u * pp i) ∧ k = i + (vb f u).length ∧ l = vb f u ++ l.drop (vb f u).length := by
  induction f with
  | zero =>
    intro l i x v k hB hf hx0 hx1 h
    obtain rfl : i = 9 := by omega
    cases l with
    | nil => cases h
    | cons c l =>
      have hc := hB c (List.mem_cons_self ..)
      simp only [rdn] at h
      rw [if_neg (by omega)] at h
      split at h
      · cases h
      rename_i h2
      have hc1 : 0 < c ∧ c ≤ 1 := by simp at h2; omega
      rw [if_pos (by omega)] at h
      injection h with h
      injection h with e1 e2
      have h99 : pp 9 = 9223372036854775808 := by decide
      refine ⟨c, by omega, fun _ => by omega, ?_, by simp [vb, ← e2], by simp [vb]⟩
      rw [← e1]
      unfold more
      rw [h99, Int.emod_eq_of_lt (a := c) (by omega) (by omega), Int.emod_eq_of_lt (b := 18446744073709551616) (by omega) (by omega)]
  | succ f ih =>
    intro l i x v k hB hf hx0 hx1 h
    cases l with
    | nil => cases h
    | cons c l =>
      have hc := hB c (List.mem_cons_self ..)
      have hi8 : i ≤ 8 := by omega
      simp only [rdn] at h
      rw [if_neg (by omega)] at h
      split at h
      · cases h
      rename_i h2
      have h2' : ¬ (c = 0 ∧ 0 < i) := by simp at h2; omega
      split at h
      · rename_i h3
        injection h with h
        injection h with e1 e2
        rw [more_small hi8, Int.emod_eq_of_lt hc.1 h3] at e1
        have hv : vb (f + 1) c = [c] := by simp only [vb]; rw [if_neg (by omega)]
        exact ⟨c, hc.1, fun _ => by omega, e1.symm, by rw [hv, ← e2]; rfl, by rw [hv]; rfl⟩
      · have hm := more_lt hi8 (c := c) hx0 hx1
        obtain ⟨u, g0, g1, g2, g3, g4⟩ := ih l (i + 1) _ v k (fun y hy => hB y (List.mem_cons_of_mem _ hy)) (by omega) hm.1 hm.2 h
        have g1 := g1 (by omega)
        have hp1 : pp (i + 1) = pp i * 128 := rfl
        have hv : vb (f + 1) (c % 128 + 128 * u) = c :: vb f u := by
          simp only [vb]
          rw [if_pos (by omega), show (c % 128 + 128 * u) % 128 + 128 = c by omega, show (c % 128 + 128 * u) / 128 = u by omega]
        refine ⟨c % 128 + 128 * u, by omega, fun _ => by omega, ?_, ?_, ?_⟩
        · rw [g2, more_small hi8, hp1, Int.add_mul, show 128 * u * pp i = u * (pp i * 128) by rw [Int.mul_comm 128 u, Int.mul_assoc, Int.mul_comm 128], Int.add_assoc]
        · rw [hv, g3, List.length_cons]; omega
        · rw [hv, List.length_cons, List.drop_succ_cons, List.cons_append, ← g4]
/-- What is read in just one way is one's own bytes. -/
theorem rdn_own {l : List Int} (hB : Byt l) {v : Int} {k : Nat} (h : rdn true l 0 0 = some (v, k)) : I64 v ∧ k = (enc v).length ∧ l = enc v ++ l.drop k := by
  obtain ⟨u, g0, _, g2, g3, g4⟩ := rdn_any 9 l 0 0 v k hB rfl (Int.le_refl 0) (by decide) h
  have hv : v = unz u := by simpa [pp] using g2
  have he : enc v = vb 9 u := by unfold enc; rw [hv, zig_unz u g0]
  rw [Nat.zero_add] at g3
  refine ⟨(rdn_far true l 0 0 v k h (Int.le_refl 0) (by decide)).2.2.2, by rw [he, g3], ?_⟩
  rw [he, g3]; exact g4
end Go.Ab
end
section
/-! Rows of numbers in bytes. -/
namespace Go.Ab
@[simp] theorem rowRw_z0 {H X : AH} : rowRw (H ++ X) 0 H.length = rowRw X 0 0 := rowRw_new0 (Nat.zero_le _)
@[simp] theorem rowRw_z {H X : AH} {i : Nat} : rowRw (H ++ X) 0 (H.length + i) = rowRw X 0 i := rowRw_new (Nat.zero_le _)
/-- A slice of bytes of a string. -/
theorem strN_u8s {l : List Int} (h : Byt l) : (strN l).data.toList.map (fun b => AV.int .u8 b.toNat) = u8s l := by
  rw [strN_data, List.map_map]
  unfold u8s
  refine List.map_congr_left fun x hx => ?_
  have := h x hx
  simp
  omega
theorem strN_get {l : List Int} (h : Byt l) {i : Nat} (hi : i < l.length) : ((strN l).data.toList[i]?).map (fun c => AV.int .u8 c.toNat) = some (.int .u8 (l.getD i 0)) := by
  have := congrArg (fun l => l[i]?) (strN_u8s h)
  simp only [List.getElem?_map] at this
  rw [this]
  simp [u8s, List.getElem?_eq_getElem hi]
def encs (l : List Int) : List Int := (l.map enc).flatten
theorem encs_app (a b : List Int) : encs (a ++ b) = encs a ++ encs b := by simp [encs]
theorem encs_one (n : Int) : encs [n] = enc n := by simp [encs]
theorem encs_cons (n : Int) (l : List Int) : encs (n :: l) = enc n ++ encs l := by simp [encs]
theorem encs_take {l : List Int} {i : Nat} (hi : i < l.length) : encs (l.take (i + 1)) = encs (l.take i) ++ enc (l.getD i 0) := by
  rw [List.take_add_one, List.getElem?_eq_getElem hi, encs_app]
  simp [encs, hi]
theorem encs_len : ∀ (l : List Int), (encs l).length ≤ 10 * l.length
  | [] => by simp [encs]
  | n :: l => by
    have h1 := encs_len l
    have h2 := (enc_len n).2
    rw [encs_cons]
    simp; omega
theorem encs_byt {l : List Int} (h : ∀ n ∈ l, I64 n) : Byt (encs l) := fun x hx => by
  simp only [encs, List.mem_flatten, List.mem_map] at hx
  obtain ⟨_, ⟨n, hn, rfl⟩, hx⟩ := hx
  exact enc_byt (h n hn) x hx
theorem encs_nil_iff {l : List Int} (h : encs l = []) : l = [] := by
  cases l with
  | nil => rfl
  | cons n l =>
    rw [encs_cons] at h
    have := (enc_len n).1
    simp at h
    rw [h.1] at this
    simp at this
theorem encs_inj : ∀ {a b : List Int}, (∀ n ∈ a, I64 n) → (∀ n ∈ b, I64 n) → encs a = encs b → a = b
  | [], b, _, _, h => (encs_nil_iff h.symm).symm
  | x :: a, b, ha, hb, h => by
    cases b with
    | nil => exact encs_nil_iff h
    | cons y b =>
      rw [encs_cons, encs_cons] at h
      have h1 := rdn_one true (ha x (by simp)) (encs a)
      rw [h, rdn_one true (hb y (by simp))] at h1
      simp only [Option.some.injEq, Prod.mk.injEq] at h1
      rw [h1.1] at h ⊢
      rw [encs_inj (fun n hn => ha n (by simp [hn])) (fun n hn => hb n (by simp [hn])) (List.append_cancel_left h)]
theorem own_step {bs l : List Int} {at_ kk : Nat} {v : Int} (hB : Byt bs) (h : encs l = bs.take at_) (hr : rdn true (bs.drop at_) 0 0 = some (v, kk)) : encs (l ++ [v]) = bs.take (at_ + kk) := by
  obtain ⟨h1, h2, h3⟩ := rdn_own (hB.drop at_) hr
  rw [encs_app, encs_one, h, List.take_add]
  congr 1
  rw [h3, h2, List.take_left' rfl]
end Go.Ab
end
section
/-! slices.Insert of one element: its text, carried out where the capacity is known. -/
set_option linter.unusedVariables false
set_option linter.unusedSimpArgs false
set_option maxHeartbeats 4000000
set_option maxRecDepth 100000
namespace Go.Proofs.Ytpinfljbccjbkaa.T.Ins
open Go Go.Ab
@[simp] theorem q3 : apN.ty 3 = some t3 := by kernel_rfl
@[simp] theorem q4 : apN.ty 4 = some t4 := by kernel_rfl
@[simp] theorem q22 : apN.ty 26 = some t26 := by kernel_rfl
@[simp] theorem q24 : apN.ty 30 = some t30 := by kernel_rfl
@[simp] theorem qpl : apN.pl = true := rfl
@[simp] theorem qx : apN.ext 44 = some overlapsX := rfl
theorem qf : apN.fn 32 = some f32 := by kernel_rfl
theorem dx11 : drawC apN (drawOf T.c32 11).toList [0, 1, 2, 3, 4, 5, 6, 7, 8] [[], [], [], [1, 2], [0, 1, 2, 3], [], [], [5, 6], [0, 1, 2, 3, 4, 5, 6, 7]] = some d32_11 := by kernel_rfl
theorem dx15 : drawC apN (drawOf T.c32 15).toList [0, 1, 2, 3, 4, 5, 6, 7, 8] [[], [], [], [1, 2], [0, 1, 2, 3], [], [], [5, 6], [0, 1, 2, 3, 4, 5, 6, 7]] = some d32_15 := by kernel_rfl
section
variable {H : AH} {b n c i bv k o sz : Nat} {l lv : List AV}
theorem aslice_lo {cap : Option Nat} (h : i ≤ n) : aslice H sz (.slice (some (b, o)) n cap sz) (some (.int .i64 (i : Int))) none none = some (.slice (some (b, o + i * sz)) (n - i) (cap.map (· - i)) sz) := by
  have h1 : (0 : Int) ≤ i ∧ (i : Int) ≤ n := by omega
  simp [aslice, abound, h]
theorem aslice_hi {z : Int} (hz : z = i) (h : i ≤ c) : aslice H sz (.slice (some (b, o)) n (some c) sz) none (some (.int .i64 z)) none = some (.slice (some (b, o)) i (some c) sz) := by
  subst hz
  simp [aslice, abound, h]
theorem aslice_lo' {z : Int} (hz : z = i) {cap : Option Nat} (h : i ≤ n) : aslice H sz (.slice (some (b, o)) n cap sz) (some (.int .i64 z)) none none = some (.slice (some (b, o + i * sz)) (n - i) (cap.map (· - i)) sz) := by
  subst hz
  exact aslice_lo h
theorem first1 {cv : Option Nat} (hr : rowOf H bv = some lv) (hlv : lv.length = sz) : firstC H sz 1 (.slice (some (bv, 0)) 1 cv sz) = some lv := by
  simp [firstC, hr, ← hlv]
theorem app_in {by_ : Nat} {cv : Option Nat} (hz : 0 < sz) (hby : 0 < by_) (hr : rowOf H bv = some lv) (hlv : lv.length = sz) (ho : lv.all AV.one = true) (hb : H[b]? = some (.cells l .rw)) (hl : l.length = c * sz) (hc : n + 1 ≤ c) :
    aappend 0 H sz by_ (.slice (some (b, 0)) n (some c) sz) (.slice (some (bv, 0)) 1 cv sz) = some (.slice (some (b, 0)) (n + 1) (some c) sz, H.set b (.cells (splice l (n * sz) lv) .rw)) := by
  have h1 : n * sz ≤ l.length := by rw [hl]; exact Nat.mul_le_mul_right _ (by omega)
  have h2 : (n + 1) * sz ≤ l.length := by rw [hl]; exact Nat.mul_le_mul_right _ (by omega)
  have hf := first1 (cv := cv) hr hlv
  rw [aappend_eq, if_pos (by simp [hz, hby])]
  simp only [lenOf, Option.bind_some, hf, ho, Bool.true_eq_false, if_false]
  simp [aappendC, rowOf_rw hb, rowRw_rw hb, h1, h2, hc]
theorem app_new {by_ : Nat} {cv : Option Nat} (hz : 0 < sz) (hby : 0 < by_) (hr : rowOf H bv = some lv) (hlv : lv.length = sz) (ho : lv.all AV.one = true) (hb : H[b]? = some (.cells l .rw)) (hl : l.length = n * sz) (hrm : (n + 1) * by_ ≤ room) :
    aappend 0 H sz by_ (.slice (some (b, 0)) n (some n) sz) (.slice (some (bv, 0)) 1 cv sz) = some (.slice (some (H.length, 0)) (n + 1) none sz, H ++ [.cells (l ++ lv) .rw]) := by
  have hf := first1 (cv := cv) hr hlv
  rw [aappend_eq, if_pos (by simp [hz, hby])]
  simp only [lenOf, Option.bind_some, hf, ho, Bool.true_eq_false, if_false]
  simp [aappendC, rowOf_rw hb, rowRw_rw hb, ← hl, hrm]
theorem acopy_to {s : AV} {m : Nat} {xs R : List AV} {cap : Option Nat} (hs : szOk sz s = true) (hz : 0 < sz) (hm : lenOf s = some m) (hx : firstC H sz (min m n) s = some xs) (h1 : xs.all AV.one = true) (h0 : xs ≠ []) (hl : H[b]? = some (.cells l .rw)) (hf : o + xs.length ≤ l.length) (hR : R = splice l o xs) :
    acopy 0 H sz (.slice (some (b, o)) n cap sz) s = some (.int .i64 (min m n : Nat), H.set b (.cells R .rw)) := by
  subst hR
  unfold acopy
  rw [hs, hm]
  simp only [szOk, lenOf, Option.bind_some, beq_self_eq_true, Bool.and_true, Bool.true_and, hx, h1, rowRw_rw hl, h0, hf]
  simp [hz]
theorem ins_run (hb : H[b]? = some (.cells l .rw)) (hv : H[bv]? = some (.cells lv .pl)) (hbv : bv ≠ b) (hl : l.length = c * 6) (hn : n ≤ c) (hi : i ≤ n) (hlv : lv.length = 6) (ho : lv.all AV.one = true) (hol : (l.take (n * 6)).all AV.one = true) (hn2 : n ≤ 1000000) :
    Hx (callA apN (k + 1) (.func 32 [] []) [.slice (some (b, 0)) n (some c) 6, .int .i64 i, .slice (some (bv, 0)) 1 (some 1) 6] 0 H) (InsPost 6 H b n c i l lv) := by
  rw [hx_go qf rfl, b32]
  have rb := rowOf_rw hb
  have rwb := rowRw_rw hb
  have rv : rowOf H bv = some lv := by simp [rowOf, hv]
  have lt := lt_of_get hb
  have hi0 : (0 : Int) ≤ i := by omega
  have hi1 : (i : Int) ≤ n := by omega
  have hbl : b < H.length := lt
  by_cases hin : i = n
  · subst hin
    have hle := Nat.le_refl i
    by_cases hc : i + 1 ≤ c
    · have key := app_in (by_ := 48) (cv := some 1) (by omega) (by omega) rv hlv ho hb hl hc
      simp [aslice_lo, key]
      refine ⟨b, some c, l.drop (i * 6 + 6), _, _, rfl, ?_, fun x hx hn => ?_, .inl ⟨rfl, rfl⟩, List.getElem?_set_self hbl⟩
      · rw [List.getElem?_set_self hbl]
        have : (i * 6 + 6) = i * 6 + lv.length := by omega
        simp [newR, splice, this]
      · rw [List.getElem?_set_ne (by omega)]
    · have hic : c = i := by omega
      subst hic
      have key := app_new (by_ := 48) (cv := some 1) (by omega) (by omega) rv hlv ho hb hl (by unfold room; omega)
      simp [aslice_lo, key]
      refine ⟨H.length, none, [], l, .rw, rfl, ?_, fun x hx hn => ?_, .inr ⟨Nat.le_refl _, rfl⟩, ?_⟩
      · simp [newR, ← hl]
      · rw [List.getElem?_append_left hx]
      · rw [List.getElem?_append_left hbl, hb]
  · have hin' : i < n := by omega
    have hinI : ¬ (i : Int) = n := by omega
    have hne : lv ≠ [] := fun h => by rw [h] at hlv; simp at hlv
    have hne2 : l ≠ [] := fun h => by rw [h] at hl; simp at hl; omega
    have w1 : IntKind.i64.wrap ((n : Int) + 1) = (n : Int) + 1 := wrap_i64 (by omega) (by omega)
    have w2 : IntKind.i64.wrap ((i : Int) + 1) = (i : Int) + 1 := wrap_i64 (by omega) (by omega)
    have a1 := fun (H : AH) (cap : Option Nat) => @aslice_lo H b n i 0 6 cap hi
    have hX1 : ((l.drop (i * 6)).take ((n - i) * 6)).all AV.one = true := by
      rw [List.all_eq_true] at hol ⊢
      intro x hx
      refine hol x ?_
      rw [show (n - i) * 6 = n * 6 - i * 6 by omega, ← List.drop_take] at hx
      exact List.mem_of_mem_drop hx
    have hXl : ((l.drop (i * 6)).take ((n - i) * 6)).length = (n - i) * 6 := by simp; omega
    have hX0 : (l.drop (i * 6)).take ((n - i) * 6) ≠ [] := fun h => by rw [h] at hXl; simp at hXl; omega
    by_cases hc : n + 1 ≤ c
    · have hci : ¬ (c : Int) < (n : Int) + 1 := by omega
      have a2 := fun (H : AH) => aslice_hi (H := H) (b := b) (n := n) (c := c) (i := n + 1) (o := 0) (sz := 6) (z := (n : Int) + 1) (by omega) hc
      have a3 := fun (H : AH) => aslice_lo' (H := H) (b := b) (n := n + 1) (i := i + 1) (o := 0) (sz := 6) (cap := some c) (z := (i : Int) + 1) (by omega) (by omega)
      have a4 := fun (H : AH) => aslice_lo' (H := H) (b := b) (n := n + 1) (i := i) (o := 0) (sz := 6) (cap := some c) (z := (i : Int)) rfl (by omega)
      have ov : overlapsX [.slice (some (bv, 0)) 1 (some 1) 6, .slice (some (b, (i + 1) * 6)) (n + 1 - (i + 1)) (some (c - (i + 1))) 6] H = some (.bool false, H) := by
        unfold overlapsX
        obtain ⟨y, lv', rfl⟩ := List.exists_cons_of_ne_nil hne
        obtain ⟨x, l', rfl⟩ := List.exists_cons_of_ne_nil hne2
        simp only [hv, hb]
        rw [if_pos ⟨hbv, by omega, by omega⟩]
      simp only [Nat.zero_add, Option.map_some] at a1 a2 a3 a4
      simp only [show n + 1 - (i + 1) = n - i by omega] at a3 ov
      simp [a1, w1, hci, hinI, a2, w2, a3, ov]
      refine hx_drawn dx15 fun D cD _ _ => ?_
      have hbD := cD.get hb (by simp)
      have f1 : firstC D 6 (n - i) (.slice (some (b, i * 6)) (n + 1 - i) (some (c - i)) 6) = some ((l.drop (i * 6)).take ((n - i) * 6)) := by
        simp [firstC, rowOf_rw hbD]
        omega
      obtain ⟨X, eX⟩ : ∃ X, X = (l.drop (i * 6)).take ((n - i) * 6) := ⟨_, rfl⟩
      rw [← eX] at hX1 hXl hX0 f1
      obtain ⟨R1, eR1⟩ : ∃ R1, R1 = splice l ((i + 1) * 6) X := ⟨_, rfl⟩
      obtain ⟨R2, eR2⟩ : ∃ R2, R2 = splice R1 (i * 6) lv := ⟨_, rfl⟩
      have hR1 : R1 = l.take ((i + 1) * 6) ++ X ++ l.drop ((n + 1) * 6) := by
        rw [eR1, splice, hXl, show (i + 1) * 6 + (n - i) * 6 = (n + 1) * 6 by omega]
      have hR1l : R1.length = c * 6 := by rw [hR1]; simp [hXl, hl]; omega
      have k1 := acopy_to (H := D) (b := b) (n := n - i) (o := (i + 1) * 6) (sz := 6) (cap := some (c - (i + 1))) (s := .slice (some (b, i * 6)) (n + 1 - i) (some (c - i)) 6) (m := n + 1 - i) (by simp) (by omega) rfl
        (by rw [Nat.min_eq_right (by omega)]; exact f1) hX1 hX0 hbD (by rw [hXl]; omega) eR1
      have lD := cD.1
      have hb1 : (D.set b (.cells R1 .rw))[b]? = some (.cells R1 .rw) := List.getElem?_set_self (by omega)
      have rv1 : rowOf (D.set b (.cells R1 .rw)) bv = some lv := by
        unfold rowOf
        rw [List.getElem?_set_ne (by omega), cD.get hv (by simp)]
      have k2 := acopy_to (H := D.set b (.cells R1 .rw)) (b := b) (n := n + 1 - i) (o := i * 6) (sz := 6) (cap := some (c - i)) (s := .slice (some (bv, 0)) 1 (some 1) 6) (m := 1) (by simp) (by omega) rfl
        (by rw [Nat.min_eq_left (by omega)]; exact first1 rv1 hlv) ho hne hb1 (by rw [hlv]; omega) eR2
      simp [d32_15, w2, a3, a4, k1, k2]
      refine ⟨b, some c, l.drop ((n + 1) * 6), _, _, rfl, ?_, fun x hx hn => ?_, .inl ⟨rfl, rfl⟩, List.getElem?_set_self (by omega)⟩
      · rw [List.getElem?_set_self (by omega), newR_eq, eR2, splice, hR1, hlv, show n * 6 - i * 6 = (n - i) * 6 by omega, ← eX]
        have q1 : (l.take ((i + 1) * 6) ++ X ++ l.drop ((n + 1) * 6)).take (i * 6) = l.take (i * 6) := by
          rw [List.append_assoc, List.take_append_of_le_length (by simp; omega), List.take_take, Nat.min_eq_left (by omega)]
        have q2 : (l.take ((i + 1) * 6) ++ X ++ l.drop ((n + 1) * 6)).drop (i * 6 + 6) = X ++ l.drop ((n + 1) * 6) := by
          rw [List.append_assoc, List.drop_left' (by simp; omega)]
        rw [q1, q2]
        simp
      · rw [List.getElem?_set_ne (by omega)]
        exact cD.2 x hx (by simp)
    · have hcn : c = n := by omega
      subst hcn
      have hci : (c : Int) < (c : Int) + 1 := by omega
      have a2 := fun (H : AH) => aslice_hi (H := H) (b := b) (n := c) (c := c) (i := i) (o := 0) (sz := 6) (z := (i : Int)) rfl hi
      obtain ⟨d, hd⟩ : ∃ d, d = c + 1 - i := ⟨_, rfl⟩
      have w3 : IntKind.i64.wrap ((c : Int) + 1 - i) = (d : Int) := by rw [wrap_i64 (by omega) (by omega)]; omega
      obtain ⟨Z, hZ⟩ : ∃ Z, Z = (List.replicate d (t30.zero)).flatten := ⟨_, rfl⟩
      simp only [Nat.zero_add, Option.map_some] at a1 a2
      have hZl : Z.length = d * 6 := by
        rw [hZ, flatten_len (sz := 6) _ (fun x hx => by rw [List.eq_of_mem_replicate hx]; rfl), List.length_replicate]
      have kz : aappendZ 0 H t30 (.slice (some (b, 0)) i (some c) 6) (.int .i64 d) = some (.slice (some (H.length, 0)) (c + 1) none 6, H ++ [.cells (l.take (i * 6) ++ Z) .rw]) := by
        unfold aappendZ
        simp only
        rw [if_pos (by simp [t30, room]; exact decide_eq_true (by omega))]
        rw [show (d : Int).toNat = d by omega, ← hZ]
        simp [t30, aappendC, rb, show ¬ d = 0 by omega, show i * 6 ≤ l.length by omega, show ¬ i + d ≤ c by omega, show (i + d) * 48 ≤ room by unfold room; omega]
        omega
      obtain ⟨R0, eR0⟩ : ∃ R0, R0 = l.take (i * 6) ++ Z := ⟨_, rfl⟩
      rw [← eR0] at kz
      have hR0l : R0.length = (c + 1) * 6 := by rw [eR0]; simp [hZl]; omega
      obtain ⟨H1, eH1⟩ : ∃ H1, H1 = H ++ [.cells R0 .rw] := ⟨_, rfl⟩
      have c1 : Chg [] H H1 := by rw [eH1]; exact .app _ _
      have g1 : H1[H.length]? = some (.cells R0 .rw) := by rw [eH1]; simp
      rw [← eH1] at kz
      have a5 := fun (G : AH) => aslice_lo' (H := G) (b := H.length) (n := c + 1) (i := i) (o := 0) (sz := 6) (cap := none) (z := (i : Int)) rfl (by omega)
      have a6 := fun (G : AH) => aslice_lo' (H := G) (b := H.length) (n := c + 1) (i := i + 1) (o := 0) (sz := 6) (cap := none) (z := (i : Int) + 1) (by omega) (by omega)
      obtain ⟨X, eX⟩ : ∃ X, X = (l.drop (i * 6)).take ((c - i) * 6) := ⟨_, rfl⟩
      rw [← eX] at hX1 hXl hX0
      obtain ⟨R1, eR1⟩ : ∃ R1, R1 = splice R0 (i * 6) lv := ⟨_, rfl⟩
      obtain ⟨R2, eR2⟩ : ∃ R2, R2 = splice R1 ((i + 1) * 6) X := ⟨_, rfl⟩
      have rv1 : rowOf H1 bv = some lv := c1.row rv (by simp)
      have k1 := acopy_to (H := H1) (b := H.length) (n := c + 1 - i) (o := i * 6) (sz := 6) (cap := none) (s := .slice (some (bv, 0)) 1 (some 1) 6) (m := 1) (by simp) (by omega) rfl
        (by rw [Nat.min_eq_left (by omega)]; exact first1 rv1 hlv) ho hne g1 (by rw [hlv]; omega) eR1
      have hR1 : R1 = l.take (i * 6) ++ (lv ++ Z.drop 6) := by
        have q0 : (l.take (i * 6)).length = i * 6 := by simp; omega
        rw [eR1, splice, eR0, hlv, List.take_left' q0, show i * 6 + 6 = (l.take (i * 6)).length + 6 by omega, ← List.drop_drop, List.drop_left, List.append_assoc]
      have hR1l : R1.length = (c + 1) * 6 := by rw [hR1]; simp [hZl, hlv]; omega
      simp only [t30] at kz
      simp only [Nat.zero_add, Option.map_none, Option.map_some] at a5 a6
      simp only [show c + 1 - (i + 1) = c - i by omega] at a6
      simp [a1, w1, hci, hinI, a2, w3, Ab.apI, kz, a5, k1]
      refine hx_drawn dx11 fun D cD _ _ => ?_
      have l1 : H1.length = H.length + 1 := by rw [eH1]; simp
      have gD : D[H.length]? = some (.cells R1 .rw) := cD.get (List.getElem?_set_self (by omega)) (by simp)
      have hbD : D[b]? = some (.cells l .rw) := cD.get (by rw [List.getElem?_set_ne (by omega)]; exact c1.get hb (by simp)) (by simp)
      have f1 : firstC D 6 (c - i) (.slice (some (b, i * 6)) (c - i) (some (c - i)) 6) = some X := by
        rw [eX]
        simp [firstC, rowOf_rw hbD]
        omega
      have k2 := acopy_to (H := D) (b := H.length) (n := c - i) (o := (i + 1) * 6) (sz := 6) (cap := none) (s := .slice (some (b, i * 6)) (c - i) (some (c - i)) 6) (m := c - i) (by simp) (by omega) rfl
        (by rw [Nat.min_self]; exact f1) hX1 hX0 gD (by rw [hXl, hR1l]; omega) eR2
      have lD := cD.1
      rw [List.length_set] at lD
      simp [d32_11, w2, a1, a6, k2]
      refine ⟨H.length, none, [], l, .rw, rfl, ?_, fun x hx hn => ?_, .inr ⟨Nat.le_refl _, rfl⟩, ?_⟩
      · rw [List.getElem?_set_self (by omega), newR_eq, eR2, splice, hXl, show c * 6 - i * 6 = (c - i) * 6 by omega, ← eX]
        have q1 : R1.take ((i + 1) * 6) = l.take (i * 6) ++ lv := by
          rw [hR1, ← List.append_assoc, List.take_left' (by simp [hlv]; omega)]
        have q2 : R1.drop ((i + 1) * 6 + (c - i) * 6) = [] := List.drop_eq_nil_of_le (by omega)
        rw [q1, q2]
        simp
      · rw [List.getElem?_set_ne (by omega), cD.2 x (by simp; omega) (by simp), List.getElem?_set_ne (by omega)]
        exact c1.2 x hx (by simp)
      · rw [List.getElem?_set_ne (by omega)]
        exact hbD
end
end Go.Proofs.Ytpinfljbccjbkaa.T.Ins
end
section
/-! slices.Insert of one element: a contract. -/
set_option linter.unusedVariables false
set_option linter.unusedSimpArgs false
set_option maxHeartbeats 4000000
set_option maxRecDepth 100000
namespace Go.Proofs.Ytpinfljbccjbkaa.T.Ins
open Go Go.Ab
theorem agreeN : Agree Try.prog apN := agree0.exts (fun _ => rfl) extP (fun f g h => by
  unfold extP at h
  split at h
  · rename_i hf
    subst hf
    cases h
    obtain ⟨i, d, z, ht⟩ := agree0.toTyAgree.get (t := 30) (ti := t30) (by kernel_rfl)
    exact overlaps_ok (tS := 26) (tR := 4) (e := 30) Try.func44 (by kernel_rfl) (by kernel_rfl) (by kernel_rfl) (by kernel_rfl) (by kernel_rfl) (fun w => run_sizeOf' ht w)
  · cases h) true
section
variable {H : AH} {bv k : Nat} {lv : List AV} {s : AV}
theorem ins_run0 (hv : H[bv]? = some (.cells lv .pl)) (hlv : lv.length = 6) (ho : lv.all AV.one = true) (hs : (∃ c s', s = .slice none 0 c s') ∨ (∃ b o l, s = .slice (some (b, o)) 0 (some 0) 6 ∧ rowOf H b = some l ∧ o ≤ l.length)) :
    callA apN (k + 1) (.func 32 [] []) [s, .int .i64 0, .slice (some (bv, 0)) 1 (some 1) 6] 0 H = some (.slice (some (H.length, 0)) 1 none 6, H ++ [.cells lv .rw]) := by
  refine Hx.eqn ?_
  rw [hx_go qf rfl, b32]
  have rv : rowOf H bv = some lv := by simp [rowOf, hv]
  have hf := first1 (cv := some 1) rv hlv
  rcases hs with ⟨c, s', rfl⟩ | ⟨b, o, l, rfl, hl, hol⟩
  · have key : aappend 0 H 6 48 (.slice none 0 c s') (.slice (some (bv, 0)) 1 (some 1) 6) = some (.slice (some (H.length, 0)) 1 none 6, H ++ [.cells lv .rw]) := by
      rw [aappend_eq, if_pos (by simp)]
      simp only [lenOf, Option.bind_some, hf, ho, Bool.true_eq_false, if_false]
      simp [aappendC, room]
    simp [aslice, abound, key]
  · have key : aappend 0 H 6 48 (.slice (some (b, o)) 0 (some 0) 6) (.slice (some (bv, 0)) 1 (some 1) 6) = some (.slice (some (H.length, 0)) 1 none 6, H ++ [.cells lv .rw]) := by
      rw [aappend_eq, if_pos (by simp)]
      simp only [lenOf, Option.bind_some, hf, ho, Bool.true_eq_false, if_false]
      simp [aappendC, room, hl, hol]
    simp [aslice, abound, key]
end
theorem primOk : ∀ f g, insP f = some g → PrimOk Try.prog f g := fun f g h => by
  unfold insP at h
  split at h
  · rename_i hf
    subst hf
    cases h
    exact insX_ok (K := 5) agreeN rfl (by omega) (fun H s bv lv a b c d => ins_run0 a b c d) (fun H b n c i bv l lv a1 a2 a3 a4 a5 a6 a7 a8 a9 a10 => ins_run a1 a2 a3 a4 a5 a6 a7 a8 a9 a10)
  · cases h
end Go.Proofs.Ytpinfljbccjbkaa.T.Ins
namespace Go.Proofs.Ytpinfljbccjbkaa.T
open Go Go.Ab
theorem agreeP : Agree Try.prog apP := Ins.agreeN.prims _ Ins.primOk
end Go.Proofs.Ytpinfljbccjbkaa.T
end
section
/-! What is known: written by wip/ab/abgen.py (an own program). -/
set_option maxRecDepth 100000
namespace Go.Proofs.Ytpinfljbccjbkaa.T
open Go Go.Ab
theorem agree : Agree Try.prog ap := agreeP.set _ _
end Go.Proofs.Ytpinfljbccjbkaa.T
end
section
/-! Orders. -/
set_option linter.unusedVariables false
set_option linter.unusedSimpArgs false
set_option maxHeartbeats 4000000
set_option maxRecDepth 100000
namespace Go.Proofs.Ytpinfljbccjbkaa.T.Qu
open Go Go.Ab
structure Od where
  id : Int
  acc : Int
  inst : Int
  side : Int
  q : Int
  p : Int
  deriving DecidableEq
def Od.cs (o : Od) : List AV := [.int .i64 o.id, .int .i64 o.acc, .int .i64 o.inst, .int .i64 o.side, .int .i64 o.q, .int .i64 o.p]
/-- Which may be. -/
def rightO (o : Od) : Bool := decide (1 ≤ o.id) && (decide (o.id ≤ 1099511627776) && (decide (1 ≤ o.acc) && (decide (o.acc ≤ 24) && (decide (0 ≤ o.inst) && (decide (o.inst < 6) && ((decide (o.side = 1) || decide (o.side = 2)) && (decide (1 ≤ o.q) && (decide (o.q ≤ 1000000000) && (decide (1 ≤ o.p) && decide (o.p ≤ 1000000000000))))))))))
section
variable {k : Nat} {H : AH}
theorem order_ok {o : Od} : callA ap (k + 1) (.func 22 [] []) [.agg o.cs] 0 H = some (.bool (rightO o), H) := by
  refine Hx.eqn ?_
  rw [hx_gg fn22 rfl, b22]
  have hs : o.side = 1 ∨ (¬ o.side = 1 ∧ o.side = 2) ∨ (¬ o.side = 1 ∧ ¬ o.side = 2) := by omega
  by_cases h0 : 1 ≤ o.id
  case neg => simp [Od.cs, rightO, *]
  by_cases h1 : o.id ≤ 1099511627776
  case neg => simp [Od.cs, rightO, *]
  by_cases h2 : 1 ≤ o.acc
  case neg => simp [Od.cs, rightO, *]
  by_cases h3 : o.acc ≤ 24
  case neg => simp [Od.cs, rightO, *]
  by_cases h4 : 0 ≤ o.inst
  case neg => simp [Od.cs, rightO, *]
  by_cases h5 : o.inst < 6
  case neg => simp [Od.cs, rightO, *]
  rcases hs with s | ⟨s, s'⟩ | ⟨s, s'⟩
  rotate_right
  · simp [Od.cs, rightO, h0, h1, h2, h3, h4, h5, s, s']
  all_goals
    by_cases h7 : 1 ≤ o.q
    case neg => simp [Od.cs, rightO, *]
    by_cases h8 : o.q ≤ 1000000000
    case neg => simp [Od.cs, rightO, *]
    by_cases h9 : 1 ≤ o.p
    case neg => simp [Od.cs, rightO, *]
    by_cases h10 : o.p ≤ 1000000000000
    case neg => simp [Od.cs, rightO, *]
    simp [Od.cs, rightO, *]
theorem price_ok {p : Int} : callA ap (k + 1) (.func 43 [] []) [.int .i64 p] 0 H = some (.bool (decide (1 ≤ p) && decide (p ≤ 1000000000000)), H) := by
  refine Hx.eqn ?_
  rw [hx_gg fn43 rfl, b43]
  by_cases h0 : 1 ≤ p
  case neg => simp [h0]
  by_cases h1 : p ≤ 1000000000000
  case neg => simp [h0, h1]
  simp [h0, h1]
theorem rorder_ok {o : Od} : callA ap (k + 2) (.func 30 [] []) [.agg o.cs] 0 H = some (.bool (rightO o), H) := by
  refine Hx.eqn ?_
  rw [hx_gg fn30 rfl, b30]
  have hs : o.side = 1 ∨ (¬ o.side = 1 ∧ o.side = 2) ∨ (¬ o.side = 1 ∧ ¬ o.side = 2) := by omega
  by_cases h0 : 1 ≤ o.id
  case neg => simp [Od.cs, rightO, price_ok, *]
  by_cases h1 : o.id ≤ 1099511627776
  case neg => simp [Od.cs, rightO, price_ok, *]
  by_cases h2 : 1 ≤ o.acc
  case neg => simp [Od.cs, rightO, price_ok, *]
  by_cases h3 : o.acc ≤ 24
  case neg => simp [Od.cs, rightO, price_ok, *]
  by_cases h4 : 0 ≤ o.inst
  case neg => simp [Od.cs, rightO, price_ok, *]
  by_cases h5 : o.inst < 6
  case neg => simp [Od.cs, rightO, price_ok, *]
  rcases hs with s | ⟨s, s'⟩ | ⟨s, s'⟩
  rotate_right
  · simp [Od.cs, rightO, price_ok, h0, h1, h2, h3, h4, h5, s, s']
  all_goals
    by_cases h7 : 1 ≤ o.q
    case neg => simp [Od.cs, rightO, price_ok, *]
    by_cases h8 : o.q ≤ 1000000000
    case neg => simp [Od.cs, rightO, price_ok, *]
    by_cases h9 : 1 ≤ o.p
    case neg => simp [Od.cs, rightO, price_ok, *]
    by_cases h10 : o.p ≤ 1000000000000
    case neg => simp [Od.cs, rightO, price_ok, *]
    simp [Od.cs, rightO, price_ok, *]
/-! rows of orders -/
def odsC (l : List Od) : List AV := (l.map Od.cs).flatten
theorem cs6 {l : List Od} : ∀ x ∈ l.map Od.cs, x.length = 6 := by simp only [List.mem_map]; rintro _ ⟨a, _, rfl⟩; rfl
@[simp] theorem odsC_len {l : List Od} : (odsC l).length = 6 * l.length := by
  unfold odsC
  rw [flatten_len (sz := 6) _ cs6, List.length_map, Nat.mul_comm]
theorem odsC_app (a b : List Od) : odsC (a ++ b) = odsC a ++ odsC b := by simp [odsC]
theorem odsC_snoc (a : List Od) (x : Od) : odsC (a ++ [x]) = odsC a ++ x.cs := by simp [odsC]
theorem odsC_one (l : List Od) : (odsC l).all AV.one = true := by
  unfold odsC
  rw [List.all_eq_true]
  intro x hx
  obtain ⟨y, hy, hx⟩ := List.mem_flatten.1 hx
  obtain ⟨a, _, rfl⟩ := List.mem_map.1 hy
  simp [Od.cs] at hx
  rcases hx with rfl | rfl | rfl | rfl | rfl | rfl <;> rfl
theorem odsC_refs (l : List Od) : refsL (odsC l) = [] := by
  induction l with
  | nil => rfl
  | cons a l ih => rw [show odsC (a :: l) = a.cs ++ odsC l from rfl]; simp [Od.cs, ih]
abbrev SO (H : AH) (v : AV) (l : List Od) : Prop := SL H 6 v (odsC l)
theorem SO.form {v : AV} {l : List Od} (h : SO H v l) : ∃ a c s, v = .slice a l.length c s := by
  have := sle_form (es := l.map Od.cs) h cs6 (by omega)
  simpa using this
theorem SO.all {v : AV} {l : List Od} (h : SO H v l) (h0 : l ≠ []) : ∃ b o c r, v = .slice (some (b, o)) l.length c 6 ∧ rowOf H b = some r ∧
    ∀ i (hi : i < l.length), o + i * 6 + 6 ≤ r.length ∧ (r.drop (o + i * 6)).take 6 = l[i].cs ∧ ∀ j, j < 6 → r[o + i * 6 + j]? = l[i].cs[j]? := by
  obtain ⟨b, o, c, r, rfl, g1, g2⟩ := sle_all (es := l.map Od.cs) h cs6 (by omega) (by simpa using h0)
  exact ⟨b, o, c, r, by simp, g1, fun i hi => g2 i _ (by simp [hi])⟩
def dO : Od := ⟨0, 0, 0, 0, 0, 0⟩
/-- The first n are right, in order. -/
def ordB (l : List Od) : Nat → Bool
  | 0 => true
  | n + 1 => ordB l n && (rightO (l.getD n dO) && (decide (n = 0) || decide ((l.getD (n - 1) dO).id < (l.getD n dO).id)))
def rightL (l : List Od) : Bool := ordB l l.length && decide (l.length ≤ 32)
theorem ordB_no {l : List Od} {i : Nat} (h : ordB l (i + 1) = false) : ∀ n, i < n → ordB l n = false
  | n + 1, hn => by
    rcases Nat.lt_or_ge i n with g | g
    · simp [ordB, ordB_no h n g]
    · have : n = i := by omega
      subst this
      exact h
theorem getd {l : List Od} {i : Nat} (hi : i < l.length) : l.getD i dO = l[i] := by simp [List.getD_eq_getElem?_getD, hi]
end
end Go.Proofs.Ytpinfljbccjbkaa.T.Qu
end
