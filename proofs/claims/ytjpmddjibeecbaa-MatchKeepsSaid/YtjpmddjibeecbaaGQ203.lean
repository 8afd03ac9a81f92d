import Derived.Test.YtjpmddjibeecbaaGQ202
import Derived.Test.YtjpmddjibeecbaaProg
import Derived.KernelRfl
section
/-! The tables of the abstract reading. Written by wip/ab/abgen.py (an own program) out of the loaded program. -/
set_option linter.unusedVariables false
set_option maxRecDepth 100000
namespace Go.Proofs.Ytjpmddjibeecbaa.T
open Go Go.Ab
noncomputable def c3 : Code := bodyOf Try.f3
noncomputable def c4 : Code := bodyOf Try.f4
noncomputable def c5 : Code := bodyOf Try.f5
noncomputable def c6 : Code := bodyOf Try.f6
noncomputable def c7 : Code := bodyOf Try.f7
noncomputable def c8 : Code := bodyOf Try.f8
noncomputable def c9 : Code := bodyOf Try.f9
noncomputable def c10 : Code := bodyOf Try.f10
noncomputable def c11 : Code := bodyOf Try.f11
noncomputable def c12 : Code := bodyOf Try.f12
noncomputable def c13 : Code := bodyOf Try.f13
noncomputable def c14 : Code := bodyOf Try.f14
noncomputable def c15 : Code := bodyOf Try.f15
noncomputable def c16 : Code := bodyOf Try.f16
noncomputable def c17 : Code := bodyOf Try.f17
noncomputable def c18 : Code := bodyOf Try.f18
noncomputable def c19 : Code := bodyOf Try.f19
noncomputable def c20 : Code := bodyOf Try.f20
noncomputable def c21 : Code := bodyOf Try.f21
noncomputable def c22 : Code := bodyOf Try.f22
noncomputable def c23 : Code := bodyOf Try.f23
noncomputable def c24 : Code := bodyOf Try.f24
noncomputable def c25 : Code := bodyOf Try.f25
noncomputable def c26 : Code := bodyOf Try.f26
noncomputable def c27 : Code := bodyOf Try.f27
noncomputable def c28 : Code := bodyOf Try.f28
noncomputable def c29 : Code := bodyOf Try.f29
noncomputable def c30 : Code := bodyOf Try.f30
noncomputable def c31 : Code := bodyOf Try.f31
noncomputable def c32 : Code := bodyOf Try.f32
noncomputable def c33 : Code := bodyOf Try.f33
noncomputable def c34 : Code := bodyOf Try.f34
noncomputable def c35 : Code := bodyOf Try.f35
noncomputable def c36 : Code := bodyOf Try.f36
noncomputable def c37 : Code := bodyOf Try.f37
noncomputable def c38 : Code := bodyOf Try.f38
noncomputable def c39 : Code := bodyOf Try.f39
noncomputable def c40 : Code := bodyOf Try.f40
noncomputable def c41 : Code := bodyOf Try.f41
noncomputable def c43 : Code := bodyOf Try.f43
noncomputable def c44 : Code := bodyOf Try.f44
noncomputable def c45 : Code := bodyOf Try.f45
def t1 : TI := ⟨1, 8, [.nilFunc], .func⟩
def t2 : TI := ⟨1, 8, [.int .i64 0], .int .i64⟩
def t3 : TI := ⟨1, 8, [.int .i64 0], .int .i64⟩
def t4 : TI := ⟨1, 1, [.bool false], .bool⟩
def t5 : TI := ⟨1, 1, [.int .u8 0], .int .u8⟩
def t22 : TI := ⟨1, 24, [.slice none 0 (some 0) 0], .slice 24⟩
def t24 : TI := ⟨6, 48, [.int .i64 0, .int .i64 0, .int .i64 0, .int .i64 0, .int .i64 0, .int .i64 0], .struct [(0, 2), (1, 3), (2, 3), (3, 3), (4, 2), (5, 2)]⟩
def t27 : TI := ⟨1, 24, [.slice none 0 (some 0) 0], .slice 48⟩
def t28 : TI := ⟨1, 8, [.ptr none], .ptr 47⟩
def t34 : TI := ⟨1, 24, [.slice none 0 (some 0) 0], .slice 40⟩
def t35 : TI := ⟨1, 8, [.int .i64 0], .int .i64⟩
def t40 : TI := ⟨5, 40, [.int .i64 0, .int .i64 0, .int .i64 0, .int .i64 0, .int .i64 0], .struct [(0, 3), (1, 3), (2, 3), (3, 2), (4, 2)]⟩
def t47 : TI := ⟨2, 32, [.slice none 0 (some 0) 0, .int .i64 0], .struct [(0, 27), (1, 3)]⟩
def t48 : TI := ⟨1, 8, [.int .u64 0], .int .u64⟩
def t50 : TI := ⟨1, 8, [.nilFunc], .func⟩
/-- novation/novationlaw17.MatchAll -/
noncomputable def b3 : AC :=
  .seq (.region [⟨some 4, .box 24 (.tmp 1), 0, none, true⟩, ⟨some 5, .box 24 (.tmp 2), 0, none, true⟩, ⟨some 6, .assign (.const (.bool false)), 4, none, true⟩])
  (.seq (.seq (.region [⟨some 7, .call (⟨.value (.func 8), #[], #[]⟩), 4, none, true⟩, ⟨some 8, .unOp .not 4 (.tmp 7), 4, none, true⟩])
  (.cond (.tmp 8) (.seq (.region [⟨some 6, .assign (.const (.bool false)), 4, none, true⟩])
  .ret) .skip))
  (.seq (.seq (.region [⟨some 9, .move (.tmp 0), 22, none, true⟩, ⟨some 10, .call (⟨.builtin .len, #[.tmp 9], #[22]⟩), 3, none, true⟩, ⟨some 11, .binOp .gtr 3 (.tmp 10) (.const (.int .i64 40)) 3, 4, none, true⟩])
  (.cond (.tmp 11) (.seq (.region [⟨some 6, .assign (.const (.bool true)), 4, none, true⟩])
  .ret) .skip))
  (.seq (.region [⟨some 12, .move (.tmp 0), 22, none, true⟩, ⟨some 13, .load 24 (.tmp 4), 24, none, true⟩, ⟨some 14, .load 24 (.tmp 5), 24, none, true⟩, ⟨some 15, .call (⟨.value (.func 9), #[.tmp 12, .tmp 13, .tmp 14], #[22, 24, 24]⟩), 4, none, true⟩, ⟨some 6, .assign (.tmp 15), 4, none, true⟩])
  .ret)))
noncomputable def f3 : AFn := ⟨16, [.tmp 6], b3⟩
/-- novation/novationlaw17.MatchDrawn -/
noncomputable def b4 : AC :=
  .seq (.region [⟨some 2, .assign (.const (.bool false)), 4, none, true⟩])
  (.seq (.seq (.region [⟨some 7, .call (⟨.value (.func 8), #[], #[]⟩), 4, none, true⟩, ⟨some 8, .unOp .not 4 (.tmp 7), 4, none, true⟩])
  (.cond (.tmp 8) (.seq (.region [⟨some 2, .assign (.const (.bool false)), 4, none, true⟩])
  .ret) .skip))
  (.seq (.region [⟨some 9, .move (.tmp 0), 27, none, true⟩, ⟨some 10, .call (⟨.value (.func 10), #[.tmp 9], #[27]⟩), 28, none, true⟩, ⟨some 3, .assign (.tmp 10), 28, none, true⟩])
  (.seq (.region [⟨some 11, .move (.tmp 3), 28, none, true⟩, ⟨some 12, .call (⟨.value (.func 11), #[.tmp 11, .const (.int .i64 32)], #[28, 3]⟩), 22, none, true⟩, ⟨some 4, .assign (.tmp 12), 22, none, true⟩])
  (.seq (.region [⟨some 13, .move (.tmp 3), 28, none, true⟩, ⟨some 14, .call (⟨.value (.func 12), #[.tmp 13, .const (.int .i64 6)], #[28, 3]⟩), 3, none, true⟩, ⟨some 15, .binOp .add 3 (.const (.int .i64 1)) (.tmp 14) 3, 3, none, true⟩, ⟨some 16, .move (.tmp 3), 28, none, true⟩, ⟨some 17, .call (⟨.value (.func 12), #[.tmp 16, .const (.int .i64 2)], #[28, 3]⟩), 3, none, true⟩, ⟨some 18, .move (.tmp 3), 28, none, true⟩, ⟨some 19, .call (⟨.value (.func 12), #[.tmp 18, .const (.int .i64 2)], #[28, 3]⟩), 3, none, true⟩, ⟨some 20, .binOp .add 3 (.const (.int .i64 1)) (.tmp 19) 3, 3, none, true⟩, ⟨some 21, .move (.tmp 3), 28, none, true⟩, ⟨some 22, .call (⟨.value (.func 12), #[.tmp 21, .const (.int .i64 100)], #[28, 3]⟩), 3, none, true⟩, ⟨some 23, .binOp .add 2 (.const (.int .i64 1)) (.tmp 22) 2, 2, none, true⟩, ⟨some 24, .move (.tmp 3), 28, none, true⟩, ⟨some 25, .call (⟨.value (.func 12), #[.tmp 24, .const (.int .i64 20)], #[28, 3]⟩), 3, none, true⟩, ⟨some 26, .binOp .add 2 (.const (.int .i64 90)) (.tmp 25) 2, 2, none, true⟩, ⟨some 27, .build 24 #[(0, .const (.int .i64 999)), (1, .tmp 15), (2, .tmp 17), (3, .tmp 20), (4, .tmp 23), (5, .tmp 26)], 24, none, true⟩, ⟨some 5, .alloc 24, 0, none, true⟩, ⟨none, .store 24 (.tmp 5) (.tmp 27), 0, none, true⟩])
  (.seq (.region [⟨some 28, .load 24 (.tmp 5), 24, none, true⟩, ⟨some 6, .alloc 24, 0, none, true⟩, ⟨none, .store 24 (.tmp 6) (.tmp 28), 0, none, true⟩])
  (.seq (.seq (.region [⟨some 29, .move (.tmp 4), 22, none, true⟩, ⟨some 30, .call (⟨.builtin .len, #[.tmp 29], #[22]⟩), 3, none, true⟩, ⟨some 31, .binOp .gtr 3 (.tmp 30) (.const (.int .i64 0)) 3, 4, none, true⟩])
  (.cond (.tmp 31) (.region [⟨some 32, .move (.tmp 4), 22, none, true⟩, ⟨some 33, .move (.tmp 3), 28, none, true⟩, ⟨some 34, .move (.tmp 4), 22, none, true⟩, ⟨some 35, .call (⟨.builtin .len, #[.tmp 34], #[22]⟩), 3, none, true⟩, ⟨some 36, .call (⟨.value (.func 12), #[.tmp 33, .tmp 35], #[28, 3]⟩), 3, none, true⟩, ⟨some 37, .indexAddr 22 (.tmp 32) (.tmp 36), 0, none, true⟩, ⟨some 38, .load 24 (.tmp 37), 24, none, true⟩, ⟨none, .store 24 (.tmp 6) (.tmp 38), 0, none, true⟩]) .skip))
  (.seq (.draw (drawOf T.c4 9) [0, 1, 2, 3, 4, 5, 7, 8, 6, 9, 10, 11] [[], [], [], [0, 1, 2], [0, 1, 2, 3], [0, 1, 2, 3, 4], [0, 1, 2, 3, 4, 5], [0, 1, 2, 3, 4], [0, 1, 2, 3, 4], [0, 1, 2, 3, 4, 5, 6, 7, 8], [0, 1, 2, 3, 4, 5, 6, 7, 8, 9], [0, 1, 2, 3, 4, 5, 6, 7, 8, 9, 10]])
  .ret)))))))
noncomputable def f4 : AFn := ⟨50, [.tmp 2], b4⟩
/-- novation/novationlaw17.MatchKeeps -/
noncomputable def b5 : AC :=
  .seq (.region [⟨some 2, .assign (.const (.bool false)), 4, none, true⟩])
  (.seq (.seq (.region [⟨some 17, .call (⟨.value (.func 8), #[], #[]⟩), 4, none, true⟩, ⟨some 18, .unOp .not 4 (.tmp 17), 4, none, true⟩])
  (.cond (.tmp 18) (.seq (.region [⟨some 2, .assign (.const (.bool false)), 4, none, true⟩])
  .ret) .skip))
  (.seq (.region [⟨some 19, .move (.tmp 0), 27, none, true⟩, ⟨some 20, .call (⟨.value (.func 10), #[.tmp 19], #[27]⟩), 28, none, true⟩, ⟨some 3, .assign (.tmp 20), 28, none, true⟩])
  (.seq (.region [⟨some 21, .move (.tmp 3), 28, none, true⟩, ⟨some 22, .call (⟨.value (.func 11), #[.tmp 21, .const (.int .i64 32)], #[28, 3]⟩), 22, none, true⟩, ⟨some 4, .assign (.tmp 22), 22, none, true⟩])
  (.seq (.region [⟨some 23, .move (.tmp 3), 28, none, true⟩, ⟨some 24, .call (⟨.value (.func 12), #[.tmp 23, .const (.int .i64 6)], #[28, 3]⟩), 3, none, true⟩, ⟨some 25, .binOp .add 3 (.const (.int .i64 1)) (.tmp 24) 3, 3, none, true⟩, ⟨some 26, .move (.tmp 3), 28, none, true⟩, ⟨some 27, .call (⟨.value (.func 12), #[.tmp 26, .const (.int .i64 2)], #[28, 3]⟩), 3, none, true⟩, ⟨some 28, .move (.tmp 3), 28, none, true⟩, ⟨some 29, .call (⟨.value (.func 12), #[.tmp 28, .const (.int .i64 2)], #[28, 3]⟩), 3, none, true⟩, ⟨some 30, .binOp .add 3 (.const (.int .i64 1)) (.tmp 29) 3, 3, none, true⟩, ⟨some 31, .move (.tmp 3), 28, none, true⟩, ⟨some 32, .call (⟨.value (.func 12), #[.tmp 31, .const (.int .i64 100)], #[28, 3]⟩), 3, none, true⟩, ⟨some 33, .binOp .add 2 (.const (.int .i64 1)) (.tmp 32) 2, 2, none, true⟩, ⟨some 34, .move (.tmp 3), 28, none, true⟩, ⟨some 35, .call (⟨.value (.func 12), #[.tmp 34, .const (.int .i64 20)], #[28, 3]⟩), 3, none, true⟩, ⟨some 36, .binOp .add 2 (.const (.int .i64 90)) (.tmp 35) 2, 2, none, true⟩, ⟨some 37, .build 24 #[(0, .const (.int .i64 999)), (1, .tmp 25), (2, .tmp 27), (3, .tmp 30), (4, .tmp 33), (5, .tmp 36)], 24, none, true⟩, ⟨some 5, .alloc 24, 0, none, true⟩, ⟨none, .store 24 (.tmp 5) (.tmp 37), 0, none, true⟩])
  (.seq (.region [⟨some 39, .move (.tmp 4), 22, none, true⟩, ⟨some 40, .load 24 (.tmp 5), 24, none, true⟩, ⟨some 41, .call (⟨.value (.func 14), #[.tmp 39, .tmp 40], #[22, 24]⟩), 36, none, true⟩, ⟨some 38, .move (.tmp 41), 36, none, true⟩, ⟨some 42, .extract (.tmp 38) 0, 22, none, true⟩, ⟨some 43, .extract (.tmp 38) 1, 34, none, true⟩, ⟨some 44, .extract (.tmp 38) 2, 2, none, true⟩, ⟨some 45, .extract (.tmp 38) 3, 35, none, true⟩, ⟨some 6, .assign (.tmp 42), 22, none, true⟩, ⟨some 7, .assign (.tmp 43), 34, none, true⟩, ⟨some 8, .assign (.tmp 44), 2, none, true⟩, ⟨some 9, .assign (.tmp 45), 35, none, true⟩])
  (.seq (.seq (.region [⟨some 46, .move (.tmp 9), 35, none, true⟩, ⟨some 47, .binOp .neq 35 (.tmp 46) (.const (.int .i64 0)) 35, 4, none, true⟩, ⟨some 48, .move (.tmp 47), 4, none, true⟩, ⟨some 49, .move (.tmp 8), 2, some (some 48), false⟩, ⟨some 50, .binOp .lss 2 (.tmp 49) (.const (.int .i64 0)) 2, 4, some (some 48), false⟩, ⟨some 51, .pick (.tmp 48) (.const (.bool true)) (.tmp 50), 4, none, true⟩, ⟨some 52, .move (.tmp 51), 4, none, true⟩, ⟨some 53, .move (.tmp 6), 22, some (some 52), false⟩, ⟨some 54, .call (⟨.value (.func 15), #[.tmp 53], #[22]⟩), 4, some (some 52), false⟩, ⟨some 55, .unOp .not 4 (.tmp 54), 4, some (some 52), false⟩, ⟨some 56, .pick (.tmp 52) (.const (.bool true)) (.tmp 55), 4, none, true⟩])
  (.cond (.tmp 56) (.seq (.region [⟨some 2, .assign (.const (.bool false)), 4, none, true⟩])
  .ret) .skip))
  (.seq (.region [⟨some 10, .assign (.const (.int .i64 0)), 2, none, true⟩])
  (.seq (.seq (.region [⟨some 11, .assign (.const (.int .i64 0)), 3, none, true⟩])
  (.block 0 (.loop [false, false, false, false, true, true, true, true, true, false, true, true, false, false, false, false, false, false, false, false, false, false, false, false, false, false, false, false, false, false, false, false, false, false, false, false, false, false, false, false, false, false, false, false, false, false, false, false, false, false, false, false, false, false, false, false, false, false, false, false, false, false, false, false, false, false, false, false, false, false, false, false, false, false, false, false, false, false, false, false, false, false, false, false, false, false, false, false, false, false, false, false, false, false, false, false, false, false, false, false, false, false, false, false, false, false, false, false, false, false, false, false, false, false, false, false, false, false, false, false, false, false, false, false, false, false, false, false, false, false, false, false, false, false, false, false, false, false, false, false, false, false, false, false, false, false, false, false, false, false, false, false, false, false, false, false, false, false, false, false, false, false, false, false, false, false, false, false, false, false, false, false, false, false, false, false, false, false, false, false, false, false, false, false, false, false, false, false, false, false, false, false, false, false, false, false, false, false, false, false, false, false, false, false, false, false, false, false, false, false, false, false, false, false, false, false, false, false, false, false, false, false, false, false, false, false, false, false, false, false, false, false, false, false, false, false, false, false, false, false, false, false, false, false, false, false, false, false, false, false, false, false, false, false, false, false, false, false, false, false, false, false, false, false, false, false, false, false, false, false, false, false, false, false, false, false, false, false, false, false, false, false, false, false, false, false, false, false, false, false, false, false, false, false, false, false, false, false, false, false, false, false, false] (.seq (.seq (.region [⟨some 57, .move (.tmp 11), 3, none, true⟩, ⟨some 58, .move (.tmp 7), 34, none, true⟩, ⟨some 59, .call (⟨.builtin .len, #[.tmp 58], #[34]⟩), 3, none, true⟩, ⟨some 60, .binOp .lss 3 (.tmp 57) (.tmp 59) 3, 4, none, true⟩])
  (.cond (.tmp 60) .skip (.exit 0)))
  (.seq (.block 1 (.seq (.region [⟨some 63, .move (.tmp 10), 2, none, true⟩, ⟨some 64, .move (.tmp 7), 34, none, true⟩, ⟨some 65, .move (.tmp 11), 3, none, true⟩, ⟨some 66, .indexAddr 34 (.tmp 64) (.tmp 65), 0, none, true⟩, ⟨some 67, .fieldAddr 40 (.tmp 66) 3, 0, none, true⟩, ⟨some 68, .load 2 (.tmp 67), 2, none, true⟩, ⟨some 69, .binOp .add 2 (.tmp 63) (.tmp 68) 2, 2, none, true⟩, ⟨some 10, .assign (.tmp 69), 2, none, true⟩])
  (.seq (.seq (.draw (drawOf T.c5 14) [0, 1, 2, 3, 4, 5, 6, 7, 8, 9, 10, 11, 12, 13, 14, 15, 16, 17, 18, 19, 20, 21, 22, 23, 24, 25, 26, 27, 28, 29, 30, 31, 32, 33, 34, 35, 36, 37, 38, 39, 40, 41, 42, 43, 44, 45, 46, 47, 48, 49, 50, 51, 52, 53, 54, 55, 56, 57, 58, 59, 60, 61, 62, 63, 64, 65, 66, 67, 68, 69, 70, 71, 72, 73, 74, 75, 76, 77, 78] [[], [], [0, 1], [0, 1, 2], [0, 1, 2, 3], [0, 1, 2, 3, 4], [0, 1, 2, 3, 4, 5], [0, 1, 2, 3, 4, 5, 6], [0, 1, 2, 3, 4, 5, 6], [0, 1, 2, 3, 4, 5, 6, 7, 8], [0, 1, 2, 3, 4, 5, 6, 7, 8, 9], [0, 1, 2, 3, 4, 5, 6, 7, 8, 9, 10], [0, 1, 2, 3, 4, 5, 6], [0, 1, 2, 3, 4, 5, 6, 12], [0, 1, 2, 3, 4, 5, 6, 7, 8, 9, 10, 11, 12, 13], [0, 1, 2, 3, 4, 5, 6, 7, 8, 9, 10, 11, 12, 13, 14], [0, 1, 2, 3, 4, 5, 6, 7, 8, 9, 10, 11, 12, 13, 14, 15], [0, 1, 2, 3, 4, 5, 6, 7, 8, 9, 10, 11, 12, 13, 14, 15, 16], [0, 1, 2, 3, 4, 5, 6, 7, 8, 9, 10, 11, 12, 13, 14, 15, 16], [0, 1, 2, 3, 4, 5, 6, 7, 8, 9, 10, 11, 12, 13, 14, 15, 16, 17, 18], [0, 1, 2, 3, 4, 5, 6, 7, 8, 9, 10, 11, 12, 13, 14, 15, 16, 17, 18, 19], [0, 1, 2, 3, 4, 5, 6, 7, 8, 9, 10, 11, 12, 13, 14, 15, 16, 17, 18, 19, 20], [0, 1, 2, 3, 4, 5, 6, 7, 8, 9, 10, 11, 12, 13, 14, 15, 16], [0, 1, 2, 3, 4, 5, 6, 7, 8, 9, 10, 11, 12, 13, 14, 15, 16], [0, 1, 2, 3, 4, 5, 6, 7, 8, 9, 10, 11, 12, 13, 14, 15, 16, 22, 23], [0, 1, 2, 3, 4, 5, 6, 7, 8, 9, 10, 11, 12, 13, 14, 15, 16, 22, 23, 24], [0, 1, 2, 3, 4, 5, 6, 7, 8, 9, 10, 11, 12, 13, 14, 15, 16, 22, 23, 24, 25], [0, 1, 2, 3, 4, 5, 6, 7, 8, 9, 10, 11, 12, 13, 14, 15, 16, 17, 18, 19, 20, 21, 22, 23, 24, 25, 26], [0, 1, 2, 3, 4, 5, 6, 7, 8, 9, 10, 11, 12, 13, 14, 15, 16, 17, 18, 19, 20, 21, 22, 23, 24, 25, 26, 27], [0, 1, 2, 3, 4, 5, 6, 7, 8, 9, 10, 11, 12, 13, 14, 15, 16, 17, 18, 19, 20, 21, 22, 23, 24, 25, 26, 27, 28], [0, 1, 2, 3, 4, 5, 6, 7, 8, 9, 10, 11, 12, 13, 14, 15, 16, 17, 18, 19, 20, 21, 22, 23, 24, 25, 26, 27, 28, 29], [0, 1, 2, 3, 4, 5, 6, 7, 8, 9, 10, 11, 12, 13, 14, 15, 16, 17, 18, 19, 20, 21, 22, 23, 24, 25, 26, 27, 28, 29, 30], [0, 1, 2, 3, 4, 5, 6, 7, 8, 9, 10, 11, 12, 13, 14, 15, 16, 17, 18, 19, 20, 21, 22, 23, 24, 25, 26, 27, 28, 29, 30, 31], [0, 1, 2, 3, 4, 5, 6, 7, 8, 9, 10, 11, 12, 13, 14, 15, 16, 17, 18, 19, 20, 21, 22, 23, 24, 25, 26, 27, 28, 29, 30, 31, 32], [0, 1, 2, 3, 4, 5, 6, 7, 8, 9, 10, 11, 12, 13, 14, 15, 16, 17, 18, 19, 20, 21, 22, 23, 24, 25, 26, 27, 28, 29, 30, 31, 32, 33], [0, 1, 2, 3, 4, 5, 6, 7, 8, 9, 10, 11, 12, 13, 14, 15, 16, 17, 18, 19, 20, 21, 22, 23, 24, 25, 26, 27, 28, 29, 30, 31, 32, 33], [0, 1, 2, 3, 4, 5, 6, 7, 8, 9, 10, 11, 12, 13, 14, 15, 16, 17, 18, 19, 20, 21, 22, 23, 24, 25, 26, 27, 28, 29, 30, 31, 32, 33, 34, 35], [0, 1, 2, 3, 4, 5, 6, 7, 8, 9, 10, 11, 12, 13, 14, 15, 16, 17, 18, 19, 20, 21, 22, 23, 24, 25, 26, 27, 28, 29, 30, 31, 32, 33, 34, 35, 36], [0, 1, 2, 3, 4, 5, 6, 7, 8, 9, 10, 11, 12, 13, 14, 15, 16, 17, 18, 19, 20, 21, 22, 23, 24, 25, 26, 27, 28, 29, 30, 31, 32, 33, 34, 35, 36, 37], [0, 1, 2, 3, 4, 5, 6, 7, 8, 9, 10, 11, 12, 13, 14, 15, 16, 17, 18, 19, 20, 21, 22, 23, 24, 25, 26, 27, 28, 29, 30, 31, 32, 33], [0, 1, 2, 3, 4, 5, 6, 7, 8, 9, 10, 11, 12, 13, 14, 15, 16, 17, 18, 19, 20, 21, 22, 23, 24, 25, 26, 27, 28, 29, 30, 31, 32, 33, 39], [0, 1, 2, 3, 4, 5, 6, 7, 8, 9, 10, 11, 12, 13, 14, 15, 16, 17, 18, 19, 20, 21, 22, 23, 24, 25, 26, 27, 28, 29, 30, 31, 32, 33, 34, 35, 36, 37, 38, 39, 40], [0, 1, 2, 3, 4, 5, 6, 7, 8, 9, 10, 11, 12, 13, 14, 15, 16, 17, 18, 19, 20, 21, 22, 23, 24, 25, 26, 27, 28, 29, 30, 31, 32, 33, 34, 35, 36, 37, 38, 39, 40, 41], [0, 1, 2, 3, 4, 5, 6, 7, 8, 9, 10, 11, 12, 13, 14, 15, 16, 17, 18, 19, 20, 21, 22, 23, 24, 25, 26, 27, 28, 29, 30, 31, 32, 33, 34, 35, 36, 37, 38, 39, 40, 41, 42], [0, 1, 2, 3, 4, 5, 6, 7, 8, 9, 10, 11, 12, 13, 14, 15, 16, 17, 18, 19, 20, 21, 22, 23, 24, 25, 26, 27, 28, 29, 30, 31, 32, 33, 34, 35, 36, 37, 38, 39, 40, 41, 42], [0, 1, 2, 3, 4, 5, 6, 7, 8, 9, 10, 11, 12, 13, 14, 15, 16, 17, 18, 19, 20, 21, 22, 23, 24, 25, 26, 27, 28, 29, 30, 31, 32, 33, 34, 35, 36, 37, 38, 39, 40, 41, 42, 43, 44], [0, 1, 2, 3, 4, 5, 6, 7, 8, 9, 10, 11, 12, 13, 14, 15, 16, 17, 18, 19, 20, 21, 22, 23, 24, 25, 26, 27, 28, 29, 30, 31, 32, 33, 34, 35, 36, 37, 38, 39, 40, 41, 42, 43, 44, 45], [0, 1, 2, 3, 4, 5, 6, 7, 8, 9, 10, 11, 12, 13, 14, 15, 16, 17, 18, 19, 20, 21, 22, 23, 24, 25, 26, 27, 28, 29, 30, 31, 32, 33, 34, 35, 36, 37, 38, 39, 40, 41, 42, 43, 44, 45, 46], [0, 1, 2, 3, 4, 5, 6, 7, 8, 9, 10, 11, 12, 13, 14, 15, 16, 17, 18, 19, 20, 21, 22, 23, 24, 25, 26, 27, 28, 29, 30, 31, 32, 33, 34, 35, 36, 37, 38, 39, 40, 41, 42], [0, 1, 2, 3, 4, 5, 6, 7, 8, 9, 10, 11, 12, 13, 14, 15, 16, 17, 18, 19, 20, 21, 22, 23, 24, 25, 26, 27, 28, 29, 30, 31, 32, 33, 34, 35, 36, 37, 38, 39, 40, 41, 42, 48], [0, 1, 2, 3, 4, 5, 6, 7, 8, 9, 10, 11, 12, 13, 14, 15, 16, 17, 18, 19, 20, 21, 22, 23, 24, 25, 26, 27, 28, 29, 30, 31, 32, 33, 34, 35, 36, 37, 38, 39, 40, 41, 42, 43, 44, 45, 46, 47, 48, 49], [0, 1, 2, 3, 4, 5, 6, 7, 8, 9, 10, 11, 12, 13, 14, 15, 16, 17, 18, 19, 20, 21, 22, 23, 24, 25, 26, 27, 28, 29, 30, 31, 32, 33, 34, 35, 36, 37, 38, 39, 40, 41, 42, 43, 44, 45, 46, 47, 48, 49, 50], [0, 1, 2, 3, 4, 5, 6, 7, 8, 9, 10, 11, 12, 13, 14, 15, 16, 17, 18, 19, 20, 21, 22, 23, 24, 25, 26, 27, 28, 29, 30, 31, 32, 33, 34, 35, 36, 37, 38, 39, 40, 41, 42, 43, 44, 45, 46, 47, 48, 49, 50, 51], [0, 1, 2, 3, 4, 5, 6, 7, 8, 9, 10, 11, 12, 13, 14, 15, 16, 17, 18, 19, 20, 21, 22, 23, 24, 25, 26, 27, 28, 29, 30, 31, 32, 33, 34, 35, 36, 37, 38, 39, 40, 41, 42, 43, 44, 45, 46, 47, 48, 49, 50, 51, 52], [0, 1, 2, 3, 4, 5, 6, 7, 8, 9, 10, 11, 12, 13, 14, 15, 16, 17, 18, 19, 20, 21, 22, 23, 24, 25, 26, 27, 28, 29, 30, 31, 32, 33, 34, 35, 36, 37, 38, 39, 40, 41, 42, 43, 44, 45, 46, 47, 48, 49, 50, 51, 52, 53], [0, 1, 2, 3, 4, 5, 6, 7, 8, 9, 10, 11, 12, 13, 14, 15, 16, 17, 18, 19, 20, 21, 22, 23, 24, 25, 26, 27, 28, 29, 30, 31, 32, 33, 34, 35, 36, 37, 38, 39, 40, 41, 42, 43, 44, 45, 46, 47, 48, 49, 50, 51, 52, 53, 54], [0, 1, 2, 3, 4, 5, 6, 7, 8, 9, 10, 11, 12, 13, 14, 15, 16, 17, 18, 19, 20, 21, 22, 23, 24, 25, 26, 27, 28, 29, 30, 31, 32, 33, 34, 35, 36, 37, 38, 39, 40, 41, 42, 43, 44, 45, 46, 47, 48, 49, 50, 51, 52, 53, 54, 55], [0, 1, 2, 3, 4, 5, 6, 7, 8, 9, 10, 11, 12, 13, 14, 15, 16, 17, 18, 19, 20, 21, 22, 23, 24, 25, 26, 27, 28, 29, 30, 31, 32, 33, 34, 35, 36, 37, 38, 39, 40, 41, 42, 43, 44, 45, 46, 47, 48, 49, 50, 51, 52, 53, 54, 55, 56], [0, 1, 2, 3, 4, 5, 6, 7, 8, 9, 10, 11, 12, 13, 14, 15, 16, 17, 18, 19, 20, 21, 22, 23, 24, 25, 26, 27, 28, 29, 30, 31, 32, 33, 34, 35, 36, 37, 38, 39, 40, 41, 42, 43, 44, 45, 46, 47, 48, 49, 50, 51, 52, 53, 54, 55, 56, 57], [0, 1, 2, 3, 4, 5, 6, 7, 8, 9, 10, 11, 12, 13, 14, 15, 16, 17, 18, 19, 20, 21, 22, 23, 24, 25, 26, 27, 28, 29, 30, 31, 32, 33, 34, 35, 36, 37, 38, 39, 40, 41, 42, 43, 44, 45, 46, 47, 48, 49, 50, 51, 52, 53, 54, 55, 56, 57, 58], [0, 1, 2, 3, 4, 5, 6, 7, 8, 9, 10, 11, 12, 13, 14, 15, 16, 17, 18, 19, 20, 21, 22, 23, 24, 25, 26, 27, 28, 29, 30, 31, 32, 33, 34, 35, 36, 37, 38, 39, 40, 41, 42, 43, 44, 45, 46, 47, 48, 49, 50, 51, 52, 53, 54, 55, 56, 57, 58], [0, 1, 2, 3, 4, 5, 6, 7, 8, 9, 10, 11, 12, 13, 14, 15, 16, 17, 18, 19, 20, 21, 22, 23, 24, 25, 26, 27, 28, 29, 30, 31, 32, 33, 34, 35, 36, 37, 38, 39, 40, 41, 42, 43, 44, 45, 46, 47, 48, 49, 50, 51, 52, 53, 54, 55, 56, 57, 58, 59, 60], [0, 1, 2, 3, 4, 5, 6, 7, 8, 9, 10, 11, 12, 13, 14, 15, 16, 17, 18, 19, 20, 21, 22, 23, 24, 25, 26, 27, 28, 29, 30, 31, 32, 33, 34, 35, 36, 37, 38, 39, 40, 41, 42, 43, 44, 45, 46, 47, 48, 49, 50, 51, 52, 53, 54, 55, 56, 57, 58, 59, 60, 61], [0, 1, 2, 3, 4, 5, 6, 7, 8, 9, 10, 11, 12, 13, 14, 15, 16, 17, 18, 19, 20, 21, 22, 23, 24, 25, 26, 27, 28, 29, 30, 31, 32, 33, 34, 35, 36, 37, 38, 39, 40, 41, 42, 43, 44, 45, 46, 47, 48, 49, 50, 51, 52, 53, 54, 55, 56, 57, 58, 59, 60, 61, 62], [0, 1, 2, 3, 4, 5, 6, 7, 8, 9, 10, 11, 12, 13, 14, 15, 16, 17, 18, 19, 20, 21, 22, 23, 24, 25, 26, 27, 28, 29, 30, 31, 32, 33, 34, 35, 36, 37, 38, 39, 40, 41, 42, 43, 44, 45, 46, 47, 48, 49, 50, 51, 52, 53, 54, 55, 56, 57, 58], [0, 1, 2, 3, 4, 5, 6, 7, 8, 9, 10, 11, 12, 13, 14, 15, 16, 17, 18, 19, 20, 21, 22, 23, 24, 25, 26, 27, 28, 29, 30, 31, 32, 33, 34, 35, 36, 37, 38, 39, 40, 41, 42, 43, 44, 45, 46, 47, 48, 49, 50, 51, 52, 53, 54, 55, 56, 57, 58, 64], [0, 1, 2, 3, 4, 5, 6, 7, 8, 9, 10, 11, 12, 13, 14, 15, 16, 17, 18, 19, 20, 21, 22, 23, 24, 25, 26, 27, 28, 29, 30, 31, 32, 33, 34, 35, 36, 37, 38, 39, 40, 41, 42, 43, 44, 45, 46, 47, 48, 49, 50, 51, 52, 53, 54, 55, 56, 57, 58, 59, 60, 61, 62, 63, 64, 65], [0, 1, 2, 3, 4, 5, 6, 7, 8, 9, 10, 11, 12, 13, 14, 15, 16, 17, 18, 19, 20, 21, 22, 23, 24, 25, 26, 27, 28, 29, 30, 31, 32, 33, 34, 35, 36, 37, 38, 39, 40, 41, 42, 43, 44, 45, 46, 47, 48, 49, 50, 51, 52, 53, 54, 55, 56, 57, 58, 59, 60, 61, 62, 63, 64, 65, 66], [0, 1, 2, 3, 4, 5, 6, 7, 8, 9, 10, 11, 12, 13, 14, 15, 16, 17, 18, 19, 20, 21, 22, 23, 24, 25, 26, 27, 28, 29, 30, 31, 32, 33, 34, 35, 36, 37, 38, 39, 40, 41, 42, 43, 44, 45, 46, 47, 48, 49, 50, 51, 52, 53, 54, 55, 56, 57, 58, 59, 60, 61, 62, 63, 64, 65, 66, 67], [0, 1, 2, 3, 4, 5, 6, 7, 8, 9, 10, 11, 12, 13, 14, 15, 16, 17, 18, 19, 20, 21, 22, 23, 24, 25, 26, 27, 28, 29, 30, 31, 32, 33, 34, 35, 36, 37, 38, 39, 40, 41, 42, 43, 44, 45, 46, 47, 48, 49, 50, 51, 52, 53, 54, 55, 56, 57, 58, 59, 60, 61, 62, 63, 64, 65, 66, 67], [0, 1, 2, 3, 4, 5, 6, 7, 8, 9, 10, 11, 12, 13, 14, 15, 16, 17, 18, 19, 20, 21, 22, 23, 24, 25, 26, 27, 28, 29, 30, 31, 32, 33, 34, 35, 36, 37, 38, 39, 40, 41, 42, 43, 44, 45, 46, 47, 48, 49, 50, 51, 52, 53, 54, 55, 56, 57, 58, 59, 60, 61, 62, 63, 64, 65, 66, 67, 68, 69], [0, 1, 2, 3, 4, 5, 6, 7, 8, 9, 10, 11, 12, 13, 14, 15, 16, 17, 18, 19, 20, 21, 22, 23, 24, 25, 26, 27, 28, 29, 30, 31, 32, 33, 34, 35, 36, 37, 38, 39, 40, 41, 42, 43, 44, 45, 46, 47, 48, 49, 50, 51, 52, 53, 54, 55, 56, 57, 58, 59, 60, 61, 62, 63, 64, 65, 66, 67, 68, 69, 70], [0, 1, 2, 3, 4, 5, 6, 7, 8, 9, 10, 11, 12, 13, 14, 15, 16, 17, 18, 19, 20, 21, 22, 23, 24, 25, 26, 27, 28, 29, 30, 31, 32, 33, 34, 35, 36, 37, 38, 39, 40, 41, 42, 43, 44, 45, 46, 47, 48, 49, 50, 51, 52, 53, 54, 55, 56, 57, 58, 59, 60, 61, 62, 63, 64, 65, 66, 67, 68, 69, 70, 71], [0, 1, 2, 3, 4, 5, 6, 7, 8, 9, 10, 11, 12, 13, 14, 15, 16, 17, 18, 19, 20, 21, 22, 23, 24, 25, 26, 27, 28, 29, 30, 31, 32, 33, 34, 35, 36, 37, 38, 39, 40, 41, 42, 43, 44, 45, 46, 47, 48, 49, 50, 51, 52, 53, 54, 55, 56, 57, 58, 59, 60, 61, 62, 63, 64, 65, 66, 67], [0, 1, 2, 3, 4, 5, 6, 7, 8, 9, 10, 11, 12, 13, 14, 15, 16, 17, 18, 19, 20, 21, 22, 23, 24, 25, 26, 27, 28, 29, 30, 31, 32, 33, 34, 35, 36, 37, 38, 39, 40, 41, 42, 43, 44, 45, 46, 47, 48, 49, 50, 51, 52, 53, 54, 55, 56, 57, 58, 59, 60, 61, 62, 63, 64, 65, 66, 67, 73], [0, 1, 2, 3, 4, 5, 6, 7, 8, 9, 10, 11, 12, 13, 14, 15, 16, 17, 18, 19, 20, 21, 22, 23, 24, 25, 26, 27, 28, 29, 30, 31, 32, 33, 34, 35, 36, 37, 38, 39, 40, 41, 42, 43, 44, 45, 46, 47, 48, 49, 50, 51, 52, 53, 54, 55, 56, 57, 58, 59, 60, 61, 62, 63, 64, 65, 66, 67, 68, 69, 70, 71, 72, 73, 74], [0, 1, 2, 3, 4, 5, 6, 7, 8, 9, 10, 11, 12, 13, 14, 15, 16, 17, 18, 19, 20, 21, 22, 23, 24, 25, 26, 27, 28, 29, 30, 31, 32, 33, 34, 35, 36, 37, 38, 39, 40, 41, 42, 43, 44, 45, 46, 47, 48, 49, 50, 51, 52, 53, 54, 55, 56, 57, 58, 59, 60, 61, 62, 63, 64, 65, 66, 67, 68, 69, 70, 71, 72, 73, 74, 75], [0, 1, 2, 3, 4, 5, 6, 7, 8, 9, 10, 11, 12, 13, 14, 15, 16, 17, 18, 19, 20, 21, 22, 23, 24, 25, 26, 27, 28, 29, 30, 31, 32, 33, 34, 35, 36, 37, 38, 39, 40, 41, 42, 43, 44, 45, 46, 47, 48, 49, 50, 51, 52, 53, 54, 55, 56, 57, 58, 59, 60, 61, 62, 63, 64, 65, 66, 67, 68, 69, 70, 71, 72, 73, 74, 75, 76], [0, 1, 2, 3, 4, 5, 6, 7, 8, 9, 10, 11, 12, 13, 14, 15, 16, 17, 18, 19, 20, 21, 22, 23, 24, 25, 26, 27, 28, 29, 30, 31, 32, 33, 34, 35, 36, 37, 38, 39, 40, 41, 42, 43, 44, 45, 46, 47, 48, 49, 50, 51, 52, 53, 54, 55, 56, 57, 58, 59, 60, 61, 62, 63, 64, 65, 66, 67, 68, 69, 70, 71, 72, 73, 74, 75, 76, 77]])
  (.cond (.tmp 148) (.seq (.region [⟨some 2, .assign (.const (.bool false)), 4, none, true⟩])
  .ret) .skip))
  (.seq (.draw (drawOf T.c5 16) [0, 1, 2, 3, 4, 5, 6, 7, 8, 9, 10, 11, 12, 13, 14, 15, 16, 17, 18, 19, 20, 21, 22, 23, 24, 25, 26, 27, 28, 29, 30, 31, 32, 33, 34, 35, 36, 37, 38, 39] [[], [0], [0, 1], [0, 1, 2], [0, 1, 2, 3], [0, 1, 2, 3, 4], [0, 1, 2, 3, 4, 5], [0, 1, 2, 3, 4, 5, 6], [0, 1, 2, 3, 4, 5, 6], [0, 1, 2, 3, 4, 5, 6, 7, 8], [0, 1, 2, 3, 4, 5, 6, 7, 8, 9], [0, 1, 2, 3, 4, 5, 6, 7, 8, 9, 10], [0, 1, 2, 3, 4, 5, 6], [0, 1, 2, 3, 4, 5, 6], [0, 1, 2, 3, 4, 5, 6, 13], [0, 1, 2, 3, 4, 5, 6, 12, 13, 14], [0, 1, 2, 3, 4, 5, 6, 12, 13, 14, 15], [0, 1, 2, 3, 4, 5, 6, 12, 13, 14, 15, 16], [0, 1, 2, 3, 4, 5, 6, 7, 8, 9, 10, 11, 12, 13, 14, 15, 16, 17], [0, 1, 2, 3, 4, 5, 6, 7, 8, 9, 10, 11, 12, 13, 14, 15, 16, 17, 18], [0, 1, 2, 3, 4, 5, 6, 7, 8, 9, 10, 11, 12, 13, 14, 15, 16, 17, 18, 19], [0, 1, 2, 3, 4, 5, 6, 7, 8, 9, 10, 11, 12, 13, 14, 15, 16, 17, 18, 19, 20], [0, 1, 2, 3, 4, 5, 6, 7, 8, 9, 10, 11, 12, 13, 14, 15, 16, 17, 18, 19, 20, 21], [0, 1, 2, 3, 4, 5, 6, 7, 8, 9, 10, 11, 12, 13, 14, 15, 16, 17, 18, 19, 20, 21, 22], [0, 1, 2, 3, 4, 5, 6, 7, 8, 9, 10, 11, 12, 13, 14, 15, 16, 17, 18, 19, 20, 21, 22, 23], [0, 1, 2, 3, 4, 5, 6, 7, 8, 9, 10, 11, 12, 13, 14, 15, 16, 17, 18, 19, 20, 21, 22, 23, 24], [0, 1, 2, 3, 4, 5, 6, 7, 8, 9, 10, 11, 12, 13, 14, 15, 16, 17, 18, 19, 20, 21, 22, 23, 24], [0, 1, 2, 3, 4, 5, 6, 7, 8, 9, 10, 11, 12, 13, 14, 15, 16, 17, 18, 19, 20, 21, 22, 23, 24, 25, 26], [0, 1, 2, 3, 4, 5, 6, 7, 8, 9, 10, 11, 12, 13, 14, 15, 16, 17, 18, 19, 20, 21, 22, 23, 24, 25, 26, 27], [0, 1, 2, 3, 4, 5, 6, 7, 8, 9, 10, 11, 12, 13, 14, 15, 16, 17, 18, 19, 20, 21, 22, 23, 24, 25, 26, 27, 28], [0, 1, 2, 3, 4, 5, 6, 7, 8, 9, 10, 11, 12, 13, 14, 15, 16, 17, 18, 19, 20, 21, 22, 23, 24], [0, 1, 2, 3, 4, 5, 6, 7, 8, 9, 10, 11, 12, 13, 14, 15, 16, 17, 18, 19, 20, 21, 22, 23, 24], [0, 1, 2, 3, 4, 5, 6, 7, 8, 9, 10, 11, 12, 13, 14, 15, 16, 17, 18, 19, 20, 21, 22, 23, 24, 31], [0, 1, 2, 3, 4, 5, 6, 7, 8, 9, 10, 11, 12, 13, 14, 15, 16, 17, 18, 19, 20, 21, 22, 23, 24, 30, 31, 32], [0, 1, 2, 3, 4, 5, 6, 7, 8, 9, 10, 11, 12, 13, 14, 15, 16, 17, 18, 19, 20, 21, 22, 23, 24, 30, 31, 32, 33], [0, 1, 2, 3, 4, 5, 6, 7, 8, 9, 10, 11, 12, 13, 14, 15, 16, 17, 18, 19, 20, 21, 22, 23, 24, 30, 31, 32, 33, 34], [0, 1, 2, 3, 4, 5, 6, 7, 8, 9, 10, 11, 12, 13, 14, 15, 16, 17, 18, 19, 20, 21, 22, 23, 24, 25, 26, 27, 28, 29, 30, 31, 32, 33, 34, 35], [0, 1, 2, 3, 4, 5, 6, 7, 8, 9, 10, 11, 12, 13, 14, 15, 16, 17, 18, 19, 20, 21, 22, 23, 24, 25, 26, 27, 28, 29, 30, 31, 32, 33, 34, 35, 36], [0, 1, 2, 3, 4, 5, 6, 7, 8, 9, 10, 11, 12, 13, 14, 15, 16, 17, 18, 19, 20, 21, 22, 23, 24, 25, 26, 27, 28, 29, 30, 31, 32, 33, 34, 35, 36, 37], [0, 1, 2, 3, 4, 5, 6, 7, 8, 9, 10, 11, 12, 13, 14, 15, 16, 17, 18, 19, 20, 21, 22, 23, 24, 25, 26, 27, 28, 29, 30, 31, 32, 33, 34, 35, 36, 37, 38]])
  (.cond (.tmp 188) (.seq (.region [⟨some 2, .assign (.const (.bool false)), 4, none, true⟩])
  .ret) .skip)))))
  (.region [⟨some 61, .move (.tmp 11), 3, none, true⟩, ⟨some 62, .binOp .add 3 (.tmp 61) (.const (.int .i64 1)) 3, 3, none, true⟩, ⟨some 11, .assign (.tmp 62), 3, none, true⟩]))))))
  (.seq (.region [⟨some 12, .assign (.const (.int .i64 0)), 2, none, true⟩, ⟨some 13, .assign (.const (.int .i64 0)), 2, none, true⟩])
  (.seq (.seq (.region [⟨some 14, .assign (.const (.int .i64 0)), 3, none, true⟩])
  (.block 2 (.loop [false, false, false, false, true, true, true, false, true, false, true, false, true, true, true, false, false, false, false, false, false, false, false, false, false, false, false, false, false, false, false, false, false, false, false, false, false, false, false, false, false, false, false, false, false, false, false, false, false, false, false, false, false, false, false, false, false, false, false, false, false, false, false, false, false, false, false, false, false, false, false, false, false, false, false, false, false, false, false, false, false, false, false, false, false, false, false, false, false, false, false, false, false, false, false, false, false, false, false, false, false, false, false, false, false, false, false, false, false, false, false, false, false, false, false, false, false, false, false, false, false, false, false, false, false, false, false, false, false, false, false, false, false, false, false, false, false, false, false, false, false, false, false, false, false, false, false, false, false, false, false, false, false, false, false, false, false, false, false, false, false, false, false, false, false, false, false, false, false, false, false, false, false, false, false, false, false, false, false, false, false, false, false, false, false, false, false, false, false, false, false, false, false, false, false, false, false, false, false, false, false, false, false, false, false, false, false, false, false, false, false, false, false, false, false, false, false, false, false, false, false, false, false, false, false, false, false, false, false, false, false, false, false, false, false, false, false, false, false, false, false, false, false, false, false, false, false, false, false, false, false, false, false, false, false, false, false, false, false, false, false, false, false, false, false, false, false, false, false, false, false, false, false, false, false, false, false, false, false, false, false, false, false, false, false, false, false, false, false, false, false, false, false, false, false, false, false, false, false, false, false, false, false] (.seq (.seq (.region [⟨some 189, .move (.tmp 14), 3, none, true⟩, ⟨some 190, .move (.tmp 4), 22, none, true⟩, ⟨some 191, .call (⟨.builtin .len, #[.tmp 190], #[22]⟩), 3, none, true⟩, ⟨some 192, .binOp .lss 3 (.tmp 189) (.tmp 191) 3, 4, none, true⟩])
  (.cond (.tmp 192) .skip (.exit 2)))
  (.seq (.block 3 (.region [⟨some 195, .move (.tmp 12), 2, none, true⟩, ⟨some 196, .move (.tmp 4), 22, none, true⟩, ⟨some 197, .move (.tmp 14), 3, none, true⟩, ⟨some 198, .indexAddr 22 (.tmp 196) (.tmp 197), 0, none, true⟩, ⟨some 199, .fieldAddr 24 (.tmp 198) 4, 0, none, true⟩, ⟨some 200, .load 2 (.tmp 199), 2, none, true⟩, ⟨some 201, .binOp .add 2 (.tmp 195) (.tmp 200) 2, 2, none, true⟩, ⟨some 12, .assign (.tmp 201), 2, none, true⟩]))
  (.region [⟨some 193, .move (.tmp 14), 3, none, true⟩, ⟨some 194, .binOp .add 3 (.tmp 193) (.const (.int .i64 1)) 3, 3, none, true⟩, ⟨some 14, .assign (.tmp 194), 3, none, true⟩]))))))
  (.seq (.region [⟨some 15, .assign (.const (.int .i64 0)), 3, none, true⟩])
  (.seq (.seq (.region [⟨some 16, .assign (.const (.int .i64 0)), 3, none, true⟩])
  (.block 4 (.loop [false, false, false, false, true, true, true, false, true, false, true, false, true, true, false, true, true, false, false, false, false, false, false, false, false, false, false, false, false, false, false, false, false, false, false, false, false, false, false, false, false, false, false, false, false, false, false, false, false, false, false, false, false, false, false, false, false, false, false, false, false, false, false, false, false, false, false, false, false, false, false, false, false, false, false, false, false, false, false, false, false, false, false, false, false, false, false, false, false, false, false, false, false, false, false, false, false, false, false, false, false, false, false, false, false, false, false, false, false, false, false, false, false, false, false, false, false, false, false, false, false, false, false, false, false, false, false, false, false, false, false, false, false, false, false, false, false, false, false, false, false, false, false, false, false, false, false, false, false, false, false, false, false, false, false, false, false, false, false, false, false, false, false, false, false, false, false, false, false, false, false, false, false, false, false, false, false, false, false, false, false, false, false, false, false, false, false, false, false, false, false, false, false, false, false, false, false, false, false, false, false, false, false, false, false, false, false, false, false, false, false, false, false, false, false, false, false, false, false, false, false, false, false, false, false, false, false, false, false, false, false, false, false, false, false, false, false, false, false, false, false, false, false, false, false, false, false, false, false, false, false, false, false, false, false, false, false, false, false, false, false, false, false, false, false, false, false, false, false, false, false, false, false, false, false, false, false, false, false, false, false, false, false, false, false, false, false, false, false, false, false, false, false, false, false, false, false, false, false, false, false, false, false] (.seq (.seq (.region [⟨some 202, .move (.tmp 16), 3, none, true⟩, ⟨some 203, .move (.tmp 6), 22, none, true⟩, ⟨some 204, .call (⟨.builtin .len, #[.tmp 203], #[22]⟩), 3, none, true⟩, ⟨some 205, .binOp .lss 3 (.tmp 202) (.tmp 204) 3, 4, none, true⟩])
  (.cond (.tmp 205) .skip (.exit 4)))
  (.seq (.block 5 (.seq (.region [⟨some 208, .move (.tmp 13), 2, none, true⟩, ⟨some 209, .move (.tmp 6), 22, none, true⟩, ⟨some 210, .move (.tmp 16), 3, none, true⟩, ⟨some 211, .indexAddr 22 (.tmp 209) (.tmp 210), 0, none, true⟩, ⟨some 212, .fieldAddr 24 (.tmp 211) 4, 0, none, true⟩, ⟨some 213, .load 2 (.tmp 212), 2, none, true⟩, ⟨some 214, .binOp .add 2 (.tmp 208) (.tmp 213) 2, 2, none, true⟩, ⟨some 13, .assign (.tmp 214), 2, none, true⟩])
  (.seq (.block 6 (.loop [false, false, false, false, true, true, true, false, true, false, true, false, true, true, false, true, true, false, false, false, false, false, false, false, false, false, false, false, false, false, false, false, false, false, false, false, false, false, false, false, false, false, false, false, false, false, false, false, false, false, false, false, false, false, false, false, false, false, false, false, false, false, false, false, false, false, false, false, false, false, false, false, false, false, false, false, false, false, false, false, false, false, false, false, false, false, false, false, false, false, false, false, false, false, false, false, false, false, false, false, false, false, false, false, false, false, false, false, false, false, false, false, false, false, false, false, false, false, false, false, false, false, false, false, false, false, false, false, false, false, false, false, false, false, false, false, false, false, false, false, false, false, false, false, false, false, false, false, false, false, false, false, false, false, false, false, false, false, false, false, false, false, false, false, false, false, false, false, false, false, false, false, false, false, false, false, false, false, false, false, false, false, false, false, false, false, false, false, false, false, false, false, false, false, false, false, false, false, false, false, false, false, false, false, false, false, false, false, false, false, false, false, false, false, false, false, false, false, false, false, false, false, false, false, false, false, false, false, false, false, false, false, false, false, false, false, false, false, false, false, false, false, false, false, false, false, false, false, false, false, false, false, false, false, false, false, false, false, false, false, false, false, false, false, false, false, false, false, false, false, false, false, false, false, false, false, false, false, false, false, false, false, false, false, false, false, false, false, false, false, false, false, false, false, false, false, false, false, false, false, false, false, false] (.seq (.seq (.draw (drawOf T.c5 28) [0, 1, 2, 3, 4, 5, 6, 7, 8, 9, 10, 11, 12, 13, 14, 15, 16] [[], [], [1], [0, 1, 2], [0, 1, 2, 3], [0, 1, 2, 3, 4], [0, 1, 2, 3, 4], [0, 1, 2, 3, 4, 5, 6], [0, 1, 2, 3, 4, 5, 6, 7], [0, 1, 2, 3, 4, 5, 6, 7, 8], [0, 1, 2, 3, 4], [0, 1, 2, 3, 4], [0, 1, 2, 3, 4, 10, 11], [0, 1, 2, 3, 4, 10, 11, 12], [0, 1, 2, 3, 4, 10, 11, 12, 13], [0, 1, 2, 3, 4, 5, 6, 7, 8, 9, 10, 11, 12, 13, 14], [0, 1, 2, 3, 4, 5, 6, 7, 8, 9, 10, 11, 12, 13, 14, 15]])
  (.cond (.tmp 231) .skip (.exit 6)))
  (.block 7 (.region [⟨some 232, .move (.tmp 15), 3, none, true⟩, ⟨some 233, .binOp .add 3 (.tmp 232) (.const (.int .i64 1)) 3, 3, none, true⟩, ⟨some 15, .assign (.tmp 233), 3, none, true⟩])))))
  (.seq (.draw (drawOf T.c5 30) [0, 1, 2, 3, 4, 5, 6, 7, 8, 9, 10, 11, 12, 13, 14, 15, 16, 17, 18, 19, 20, 21, 22, 23, 24, 25, 26, 27, 28, 29, 30, 31, 32, 33, 34, 35, 36, 37, 38, 39, 40, 41, 42, 43, 44, 45, 46, 47, 48, 49, 50, 51, 52, 53, 54, 55] [[], [], [1], [0, 1, 2], [0, 1, 2, 3], [0, 1, 2, 3, 4], [0, 1, 2, 3, 4], [0, 1, 2, 3, 4, 5, 6], [0, 1, 2, 3, 4, 5, 6, 7], [0, 1, 2, 3, 4, 5, 6, 7, 8], [0, 1, 2, 3, 4], [0, 1, 2, 3, 4], [0, 1, 2, 3, 4, 10, 11], [0, 1, 2, 3, 4, 10, 11, 12], [0, 1, 2, 3, 4, 10, 11, 12, 13], [0, 1, 2, 3, 4, 5, 6, 7, 8, 9, 10, 11, 12, 13, 14], [0, 1, 2, 3, 4, 5, 6, 7, 8, 9, 10, 11, 12, 13, 14, 15], [0, 1, 2, 3, 4, 5, 6, 7, 8, 9, 10, 11, 12, 13, 14, 15, 16], [0, 1, 2, 3, 4, 5, 6, 7, 8, 9, 10, 11, 12, 13, 14, 15, 16, 17], [0, 1, 2, 3, 4, 5, 6, 7, 8, 9, 10, 11, 12, 13, 14, 15, 16, 17], [0, 1, 2, 3, 4, 5, 6, 7, 8, 9, 10, 11, 12, 13, 14, 15, 16, 17, 18, 19], [0, 1, 2, 3, 4, 5, 6, 7, 8, 9, 10, 11, 12, 13, 14, 15, 16, 17, 18, 19, 20], [0, 1, 2, 3, 4, 5, 6, 7, 8, 9, 10, 11, 12, 13, 14, 15, 16, 17, 18, 19, 20, 21], [0, 1, 2, 3, 4, 5, 6, 7, 8, 9, 10, 11, 12, 13, 14, 15, 16, 17], [0, 1, 2, 3, 4, 5, 6, 7, 8, 9, 10, 11, 12, 13, 14, 15, 16, 17], [0, 1, 2, 3, 4, 5, 6, 7, 8, 9, 10, 11, 12, 13, 14, 15, 16, 17, 23, 24], [0, 1, 2, 3, 4, 5, 6, 7, 8, 9, 10, 11, 12, 13, 14, 15, 16, 17, 23, 24, 25], [0, 1, 2, 3, 4, 5, 6, 7, 8, 9, 10, 11, 12, 13, 14, 15, 16, 17, 23, 24, 25, 26], [0, 1, 2, 3, 4, 5, 6, 7, 8, 9, 10, 11, 12, 13, 14, 15, 16, 17, 18, 19, 20, 21, 22, 23, 24, 25, 26, 27], [0, 1, 2, 3, 4, 5, 6, 7, 8, 9, 10, 11, 12, 13, 14, 15, 16, 17, 18, 19, 20, 21, 22, 23, 24, 25, 26, 27, 28], [0, 1, 2, 3, 4, 5, 6, 7, 8, 9, 10, 11, 12, 13, 14, 15, 16, 17, 18, 19, 20, 21, 22, 23, 24, 25, 26, 27, 28, 29], [0, 1, 2, 3, 4, 5, 6, 7, 8, 9, 10, 11, 12, 13, 14, 15, 16, 17, 18, 19, 20, 21, 22, 23, 24, 25, 26, 27, 28, 29, 30], [0, 1, 2, 3, 4, 5, 6, 7, 8, 9, 10, 11, 12, 13, 14, 15, 16, 17, 18, 19, 20, 21, 22, 23, 24, 25, 26, 27, 28, 29, 30], [0, 1, 2, 3, 4, 5, 6, 7, 8, 9, 10, 11, 12, 13, 14, 15, 16, 17, 18, 19, 20, 21, 22, 23, 24, 25, 26, 27, 28, 29, 30, 31, 32], [0, 1, 2, 3, 4, 5, 6, 7, 8, 9, 10, 11, 12, 13, 14, 15, 16, 17, 18, 19, 20, 21, 22, 23, 24, 25, 26, 27, 28, 29, 30, 31, 32, 33], [0, 1, 2, 3, 4, 5, 6, 7, 8, 9, 10, 11, 12, 13, 14, 15, 16, 17, 18, 19, 20, 21, 22, 23, 24, 25, 26, 27, 28, 29, 30, 31, 32, 33, 34], [0, 1, 2, 3, 4, 5, 6, 7, 8, 9, 10, 11, 12, 13, 14, 15, 16, 17, 18, 19, 20, 21, 22, 23, 24, 25, 26, 27, 28, 29, 30], [0, 1, 2, 3, 4, 5, 6, 7, 8, 9, 10, 11, 12, 13, 14, 15, 16, 17, 18, 19, 20, 21, 22, 23, 24, 25, 26, 27, 28, 29, 30], [0, 1, 2, 3, 4, 5, 6, 7, 8, 9, 10, 11, 12, 13, 14, 15, 16, 17, 18, 19, 20, 21, 22, 23, 24, 25, 26, 27, 28, 29, 30, 36, 37], [0, 1, 2, 3, 4, 5, 6, 7, 8, 9, 10, 11, 12, 13, 14, 15, 16, 17, 18, 19, 20, 21, 22, 23, 24, 25, 26, 27, 28, 29, 30, 36, 37, 38], [0, 1, 2, 3, 4, 5, 6, 7, 8, 9, 10, 11, 12, 13, 14, 15, 16, 17, 18, 19, 20, 21, 22, 23, 24, 25, 26, 27, 28, 29, 30, 36, 37, 38, 39], [0, 1, 2, 3, 4, 5, 6, 7, 8, 9, 10, 11, 12, 13, 14, 15, 16, 17, 18, 19, 20, 21, 22, 23, 24, 25, 26, 27, 28, 29, 30, 31, 32, 33, 34, 35, 36, 37, 38, 39, 40], [0, 1, 2, 3, 4, 5, 6, 7, 8, 9, 10, 11, 12, 13, 14, 15, 16, 17, 18, 19, 20, 21, 22, 23, 24, 25, 26, 27, 28, 29, 30, 31, 32, 33, 34, 35, 36, 37, 38, 39, 40, 41], [0, 1, 2, 3, 4, 5, 6, 7, 8, 9, 10, 11, 12, 13, 14, 15, 16, 17, 18, 19, 20, 21, 22, 23, 24, 25, 26, 27, 28, 29, 30, 31, 32, 33, 34, 35, 36, 37, 38, 39, 40, 41, 42], [0, 1, 2, 3, 4, 5, 6, 7, 8, 9, 10, 11, 12, 13, 14, 15, 16, 17, 18, 19, 20, 21, 22, 23, 24, 25, 26, 27, 28, 29, 30, 31, 32, 33, 34, 35, 36, 37, 38, 39, 40, 41, 42, 43], [0, 1, 2, 3, 4, 5, 6, 7, 8, 9, 10, 11, 12, 13, 14, 15, 16, 17, 18, 19, 20, 21, 22, 23, 24, 25, 26, 27, 28, 29, 30, 31, 32, 33, 34, 35, 36, 37, 38, 39, 40, 41, 42, 43], [0, 1, 2, 3, 4, 5, 6, 7, 8, 9, 10, 11, 12, 13, 14, 15, 16, 17, 18, 19, 20, 21, 22, 23, 24, 25, 26, 27, 28, 29, 30, 31, 32, 33, 34, 35, 36, 37, 38, 39, 40, 41, 42, 43, 44, 45], [0, 1, 2, 3, 4, 5, 6, 7, 8, 9, 10, 11, 12, 13, 14, 15, 16, 17, 18, 19, 20, 21, 22, 23, 24, 25, 26, 27, 28, 29, 30, 31, 32, 33, 34, 35, 36, 37, 38, 39, 40, 41, 42, 43, 44, 45, 46], [0, 1, 2, 3, 4, 5, 6, 7, 8, 9, 10, 11, 12, 13, 14, 15, 16, 17, 18, 19, 20, 21, 22, 23, 24, 25, 26, 27, 28, 29, 30, 31, 32, 33, 34, 35, 36, 37, 38, 39, 40, 41, 42, 43, 44, 45, 46, 47], [0, 1, 2, 3, 4, 5, 6, 7, 8, 9, 10, 11, 12, 13, 14, 15, 16, 17, 18, 19, 20, 21, 22, 23, 24, 25, 26, 27, 28, 29, 30, 31, 32, 33, 34, 35, 36, 37, 38, 39, 40, 41, 42, 43], [0, 1, 2, 3, 4, 5, 6, 7, 8, 9, 10, 11, 12, 13, 14, 15, 16, 17, 18, 19, 20, 21, 22, 23, 24, 25, 26, 27, 28, 29, 30, 31, 32, 33, 34, 35, 36, 37, 38, 39, 40, 41, 42, 43], [0, 1, 2, 3, 4, 5, 6, 7, 8, 9, 10, 11, 12, 13, 14, 15, 16, 17, 18, 19, 20, 21, 22, 23, 24, 25, 26, 27, 28, 29, 30, 31, 32, 33, 34, 35, 36, 37, 38, 39, 40, 41, 42, 43, 49, 50], [0, 1, 2, 3, 4, 5, 6, 7, 8, 9, 10, 11, 12, 13, 14, 15, 16, 17, 18, 19, 20, 21, 22, 23, 24, 25, 26, 27, 28, 29, 30, 31, 32, 33, 34, 35, 36, 37, 38, 39, 40, 41, 42, 43, 49, 50, 51], [0, 1, 2, 3, 4, 5, 6, 7, 8, 9, 10, 11, 12, 13, 14, 15, 16, 17, 18, 19, 20, 21, 22, 23, 24, 25, 26, 27, 28, 29, 30, 31, 32, 33, 34, 35, 36, 37, 38, 39, 40, 41, 42, 43, 49, 50, 51, 52], [0, 1, 2, 3, 4, 5, 6, 7, 8, 9, 10, 11, 12, 13, 14, 15, 16, 17, 18, 19, 20, 21, 22, 23, 24, 25, 26, 27, 28, 29, 30, 31, 32, 33, 34, 35, 36, 37, 38, 39, 40, 41, 42, 43, 44, 45, 46, 47, 48, 49, 50, 51, 52, 53], [0, 1, 2, 3, 4, 5, 6, 7, 8, 9, 10, 11, 12, 13, 14, 15, 16, 17, 18, 19, 20, 21, 22, 23, 24, 25, 26, 27, 28, 29, 30, 31, 32, 33, 34, 35, 36, 37, 38, 39, 40, 41, 42, 43, 44, 45, 46, 47, 48, 49, 50, 51, 52, 53, 54]])
  (.cond (.tmp 289) (.seq (.region [⟨some 2, .assign (.const (.bool false)), 4, none, true⟩])
  .ret) .skip)))))
  (.region [⟨some 206, .move (.tmp 16), 3, none, true⟩, ⟨some 207, .binOp .add 3 (.tmp 206) (.const (.int .i64 1)) 3, 3, none, true⟩, ⟨some 16, .assign (.tmp 207), 3, none, true⟩]))))))
  (.seq (.region [⟨some 290, .move (.tmp 10), 2, none, true⟩, ⟨some 291, .move (.tmp 8), 2, none, true⟩, ⟨some 292, .binOp .add 2 (.tmp 290) (.tmp 291) 2, 2, none, true⟩, ⟨some 293, .fieldAddr 24 (.tmp 5) 4, 0, none, true⟩, ⟨some 294, .load 2 (.tmp 293), 2, none, true⟩, ⟨some 295, .binOp .eql 2 (.tmp 292) (.tmp 294) 2, 4, none, true⟩, ⟨some 296, .move (.tmp 295), 4, none, true⟩, ⟨some 297, .move (.tmp 12), 2, some (some 296), true⟩, ⟨some 298, .move (.tmp 13), 2, some (some 296), true⟩, ⟨some 299, .binOp .sub 2 (.tmp 297) (.tmp 298) 2, 2, some (some 296), true⟩, ⟨some 300, .move (.tmp 10), 2, some (some 296), true⟩, ⟨some 301, .binOp .eql 2 (.tmp 299) (.tmp 300) 2, 4, some (some 296), true⟩, ⟨some 302, .pick (.tmp 296) (.tmp 301) (.const (.bool false)), 4, none, true⟩, ⟨some 2, .assign (.tmp 302), 4, none, true⟩])
  .ret)))))))))))))
noncomputable def f5 : AFn := ⟨303, [.tmp 2], b5⟩
/-- novation/novationlaw17.MatchStops -/
noncomputable def b6 : AC :=
  .seq (.region [⟨some 2, .assign (.const (.bool false)), 4, none, true⟩])
  (.seq (.seq (.region [⟨some 11, .call (⟨.value (.func 8), #[], #[]⟩), 4, none, true⟩, ⟨some 12, .unOp .not 4 (.tmp 11), 4, none, true⟩])
  (.cond (.tmp 12) (.seq (.region [⟨some 2, .assign (.const (.bool false)), 4, none, true⟩])
  .ret) .skip))
  (.seq (.region [⟨some 13, .move (.tmp 0), 27, none, true⟩, ⟨some 14, .call (⟨.value (.func 10), #[.tmp 13], #[27]⟩), 28, none, true⟩, ⟨some 3, .assign (.tmp 14), 28, none, true⟩])
  (.seq (.region [⟨some 15, .move (.tmp 3), 28, none, true⟩, ⟨some 16, .call (⟨.value (.func 13), #[.tmp 15], #[28]⟩), 22, none, true⟩, ⟨some 4, .assign (.tmp 16), 22, none, true⟩])
  (.seq (.region [⟨some 17, .move (.tmp 3), 28, none, true⟩, ⟨some 18, .call (⟨.value (.func 12), #[.tmp 17, .const (.int .i64 6)], #[28, 3]⟩), 3, none, true⟩, ⟨some 19, .binOp .add 3 (.const (.int .i64 1)) (.tmp 18) 3, 3, none, true⟩, ⟨some 20, .move (.tmp 3), 28, none, true⟩, ⟨some 21, .call (⟨.value (.func 12), #[.tmp 20, .const (.int .i64 2)], #[28, 3]⟩), 3, none, true⟩, ⟨some 22, .move (.tmp 3), 28, none, true⟩, ⟨some 23, .call (⟨.value (.func 12), #[.tmp 22, .const (.int .i64 2)], #[28, 3]⟩), 3, none, true⟩, ⟨some 24, .binOp .add 3 (.const (.int .i64 1)) (.tmp 23) 3, 3, none, true⟩, ⟨some 25, .move (.tmp 3), 28, none, true⟩, ⟨some 26, .call (⟨.value (.func 12), #[.tmp 25, .const (.int .i64 100)], #[28, 3]⟩), 3, none, true⟩, ⟨some 27, .binOp .add 2 (.const (.int .i64 1)) (.tmp 26) 2, 2, none, true⟩, ⟨some 28, .move (.tmp 3), 28, none, true⟩, ⟨some 29, .call (⟨.value (.func 12), #[.tmp 28, .const (.int .i64 20)], #[28, 3]⟩), 3, none, true⟩, ⟨some 30, .binOp .add 2 (.const (.int .i64 90)) (.tmp 29) 2, 2, none, true⟩, ⟨some 31, .build 24 #[(0, .const (.int .i64 999)), (1, .tmp 19), (2, .tmp 21), (3, .tmp 24), (4, .tmp 27), (5, .tmp 30)], 24, none, true⟩, ⟨some 5, .alloc 24, 0, none, true⟩, ⟨none, .store 24 (.tmp 5) (.tmp 31), 0, none, true⟩])
  (.seq (.region [⟨some 33, .move (.tmp 4), 22, none, true⟩, ⟨some 34, .load 24 (.tmp 5), 24, none, true⟩, ⟨some 35, .call (⟨.value (.func 14), #[.tmp 33, .tmp 34], #[22, 24]⟩), 36, none, true⟩, ⟨some 32, .move (.tmp 35), 36, none, true⟩, ⟨some 36, .extract (.tmp 32) 0, 22, none, true⟩, ⟨some 37, .extract (.tmp 32) 1, 34, none, true⟩, ⟨some 38, .extract (.tmp 32) 2, 2, none, true⟩, ⟨some 39, .extract (.tmp 32) 3, 35, none, true⟩, ⟨some 6, .assign (.tmp 36), 22, none, true⟩, ⟨some 7, .assign (.tmp 37), 34, none, true⟩, ⟨some 8, .assign (.tmp 38), 2, none, true⟩, ⟨some 9, .assign (.tmp 39), 35, none, true⟩])
  (.seq (.seq (.region [⟨some 40, .move (.tmp 9), 35, none, true⟩, ⟨some 41, .binOp .neq 35 (.tmp 40) (.const (.int .i64 0)) 35, 4, none, true⟩, ⟨some 42, .move (.tmp 41), 4, none, true⟩, ⟨some 43, .move (.tmp 4), 22, some (some 42), false⟩, ⟨some 44, .call (⟨.value (.func 16), #[.tmp 43], #[22]⟩), 4, some (some 42), false⟩, ⟨some 45, .pick (.tmp 42) (.const (.bool true)) (.tmp 44), 4, none, true⟩, ⟨some 46, .move (.tmp 45), 4, none, true⟩, ⟨some 47, .move (.tmp 6), 22, some (some 46), false⟩, ⟨some 48, .call (⟨.value (.func 16), #[.tmp 47], #[22]⟩), 4, some (some 46), false⟩, ⟨some 49, .pick (.tmp 46) (.const (.bool true)) (.tmp 48), 4, none, true⟩])
  (.cond (.tmp 49) (.seq (.region [⟨some 2, .assign (.const (.bool false)), 4, none, true⟩])
  .ret) .skip))
  (.seq (.seq (.region [⟨some 50, .move (.tmp 8), 2, none, true⟩, ⟨some 51, .binOp .eql 2 (.tmp 50) (.const (.int .i64 0)) 2, 4, none, true⟩])
  (.cond (.tmp 51) (.seq (.region [⟨some 2, .assign (.const (.bool true)), 4, none, true⟩])
  .ret) .skip))
  (.seq (.region [⟨some 52, .move (.tmp 8), 2, none, true⟩, ⟨some 53, .fieldAddr 24 (.tmp 5) 4, 0, none, true⟩, ⟨none, .store 2 (.tmp 53) (.tmp 52), 0, none, true⟩])
  (.seq (.seq (.region [⟨some 10, .assign (.const (.int .i64 0)), 3, none, true⟩])
  (.block 0 (.loop [false, false, false, false, false, true, true, false, false, false, true, false, false, false, false, false, false, false, false, false, false, false, false, false, false, false, false, false, false, false, false, false, false, false, false, false, false, false, false, false, false, false, false, false, false, false, false, false, false, false, false, false, false, false, false, false, false, false, false, false, false, false, false, false, false, false, false, false, false, false, false, false, false, false, false, false, false, false, false, false, false, false, false, false, false, false, false] (.seq (.seq (.region [⟨some 54, .move (.tmp 10), 3, none, true⟩, ⟨some 55, .move (.tmp 6), 22, none, true⟩, ⟨some 56, .call (⟨.builtin .len, #[.tmp 55], #[22]⟩), 3, none, true⟩, ⟨some 57, .binOp .lss 3 (.tmp 54) (.tmp 56) 3, 4, none, true⟩])
  (.cond (.tmp 57) .skip (.exit 0)))
  (.seq (.block 1 (.seq (.draw (drawOf T.c6 15) [0, 1, 2, 3, 4, 5, 6, 7, 8, 9, 10, 11, 12, 13] [[], [], [0, 1], [0, 1, 2], [], [0, 1, 2, 3, 4], [0, 1, 2, 3, 4, 5], [0, 1, 2, 3, 4, 5, 6], [0, 1, 2, 3, 4, 5, 6], [0, 1, 2, 3, 4, 5, 6], [0, 1, 2, 3, 4, 5, 6, 8, 9], [0, 1, 2, 3, 4, 5, 6, 8, 9, 10], [0, 1, 2, 3, 4, 5, 6, 7, 8, 9, 10, 11], [0, 1, 2, 3, 4, 5, 6, 7, 8, 9, 10, 11, 12]])
  (.cond (.tmp 73) (.seq (.region [⟨some 2, .assign (.const (.bool false)), 4, none, true⟩])
  .ret) .skip)))
  (.region [⟨some 58, .move (.tmp 10), 3, none, true⟩, ⟨some 59, .binOp .add 3 (.tmp 58) (.const (.int .i64 1)) 3, 3, none, true⟩, ⟨some 10, .assign (.tmp 59), 3, none, true⟩]))))))
  (.seq (.draw (drawOf T.c6 17) [0, 1, 2, 3, 4, 5, 7, 6, 8, 9, 10, 11, 12, 13] [[], [0], [0, 1], [0, 1, 2], [0, 1, 2, 3], [0, 1, 2, 3], [0, 1, 2, 3, 4, 5], [0, 1, 2, 3], [0, 1, 2, 3, 7], [0, 1, 2, 3, 4, 5, 6, 7, 8], [0, 1, 2, 3, 4, 5, 6, 7, 8, 9], [0, 1, 2, 3, 4, 5, 6, 7, 8, 9, 10], [0, 1, 2, 3, 4, 5, 6, 7, 8, 9, 10, 11], [0, 1, 2, 3, 4, 5, 6, 7, 8, 9, 10, 11, 12]])
  .ret))))))))))
noncomputable def f6 : AFn := ⟨87, [.tmp 2], b6⟩
/-- novation/novationlaw17.MatchTwice -/
noncomputable def b7 : AC :=
  .seq (.region [⟨some 4, .assign (.const (.bool false)), 4, none, true⟩])
  (.seq (.seq (.region [⟨some 22, .call (⟨.value (.func 8), #[], #[]⟩), 4, none, true⟩, ⟨some 23, .unOp .not 4 (.tmp 22), 4, none, true⟩])
  (.cond (.tmp 23) (.seq (.region [⟨some 4, .assign (.const (.bool false)), 4, none, true⟩])
  .ret) .skip))
  (.seq (.region [⟨some 24, .move (.tmp 0), 27, none, true⟩, ⟨some 25, .call (⟨.value (.func 10), #[.tmp 24], #[27]⟩), 28, none, true⟩, ⟨some 5, .assign (.tmp 25), 28, none, true⟩])
  (.seq (.region [⟨some 26, .move (.tmp 5), 28, none, true⟩, ⟨some 27, .call (⟨.value (.func 11), #[.tmp 26, .const (.int .i64 32)], #[28, 3]⟩), 22, none, true⟩, ⟨some 6, .assign (.tmp 27), 22, none, true⟩])
  (.seq (.region [⟨some 28, .move (.tmp 5), 28, none, true⟩, ⟨some 29, .call (⟨.value (.func 12), #[.tmp 28, .const (.int .i64 6)], #[28, 3]⟩), 3, none, true⟩, ⟨some 30, .binOp .add 3 (.const (.int .i64 1)) (.tmp 29) 3, 3, none, true⟩, ⟨some 31, .move (.tmp 5), 28, none, true⟩, ⟨some 32, .call (⟨.value (.func 12), #[.tmp 31, .const (.int .i64 2)], #[28, 3]⟩), 3, none, true⟩, ⟨some 33, .move (.tmp 5), 28, none, true⟩, ⟨some 34, .call (⟨.value (.func 12), #[.tmp 33, .const (.int .i64 2)], #[28, 3]⟩), 3, none, true⟩, ⟨some 35, .binOp .add 3 (.const (.int .i64 1)) (.tmp 34) 3, 3, none, true⟩, ⟨some 36, .move (.tmp 5), 28, none, true⟩, ⟨some 37, .call (⟨.value (.func 12), #[.tmp 36, .const (.int .i64 100)], #[28, 3]⟩), 3, none, true⟩, ⟨some 38, .binOp .add 2 (.const (.int .i64 2)) (.tmp 37) 2, 2, none, true⟩, ⟨some 39, .move (.tmp 5), 28, none, true⟩, ⟨some 40, .call (⟨.value (.func 12), #[.tmp 39, .const (.int .i64 20)], #[28, 3]⟩), 3, none, true⟩, ⟨some 41, .binOp .add 2 (.const (.int .i64 90)) (.tmp 40) 2, 2, none, true⟩, ⟨some 42, .build 24 #[(0, .const (.int .i64 999)), (1, .tmp 30), (2, .tmp 32), (3, .tmp 35), (4, .tmp 38), (5, .tmp 41)], 24, none, true⟩, ⟨some 7, .alloc 24, 0, none, true⟩, ⟨none, .store 24 (.tmp 7) (.tmp 42), 0, none, true⟩])
  (.seq (.draw (drawOf T.c7 6) [2, 3, 0, 1, 4, 5] [[], [], [], [], [0, 2, 3], [0, 1, 2, 3, 4]])
  (.seq (.region [⟨some 45, .move (.tmp 1), 5, none, true⟩, ⟨some 46, .convert 5 2 (.tmp 45), 2, none, true⟩, ⟨some 47, .fieldAddr 24 (.tmp 7) 4, 0, none, true⟩, ⟨some 48, .load 2 (.tmp 47), 2, none, true⟩, ⟨some 49, .binOp .sub 2 (.tmp 48) (.const (.int .i64 1)) 2, 2, none, true⟩, ⟨some 50, .binOp .rem 2 (.tmp 46) (.tmp 49) 2, 2, none, true⟩, ⟨some 51, .binOp .add 2 (.const (.int .i64 1)) (.tmp 50) 2, 2, none, true⟩, ⟨some 52, .fieldAddr 24 (.tmp 8) 4, 0, none, true⟩, ⟨none, .store 2 (.tmp 52) (.tmp 51), 0, none, true⟩])
  (.seq (.region [⟨some 53, .fieldAddr 24 (.tmp 7) 4, 0, none, true⟩, ⟨some 54, .load 2 (.tmp 53), 2, none, true⟩, ⟨some 55, .fieldAddr 24 (.tmp 8) 4, 0, none, true⟩, ⟨some 56, .load 2 (.tmp 55), 2, none, true⟩, ⟨some 57, .binOp .sub 2 (.tmp 54) (.tmp 56) 2, 2, none, true⟩, ⟨some 58, .fieldAddr 24 (.tmp 9) 4, 0, none, true⟩, ⟨none, .store 2 (.tmp 58) (.tmp 57), 0, none, true⟩])
  (.seq (.region [⟨some 60, .move (.tmp 6), 22, none, true⟩, ⟨some 61, .load 24 (.tmp 7), 24, none, true⟩, ⟨some 62, .call (⟨.value (.func 14), #[.tmp 60, .tmp 61], #[22, 24]⟩), 36, none, true⟩, ⟨some 59, .move (.tmp 62), 36, none, true⟩, ⟨some 63, .extract (.tmp 59) 0, 22, none, true⟩, ⟨some 64, .extract (.tmp 59) 1, 34, none, true⟩, ⟨some 65, .extract (.tmp 59) 2, 2, none, true⟩, ⟨some 66, .extract (.tmp 59) 3, 35, none, true⟩, ⟨some 10, .assign (.tmp 63), 22, none, true⟩, ⟨some 11, .assign (.tmp 64), 34, none, true⟩, ⟨some 12, .assign (.tmp 65), 2, none, true⟩, ⟨some 13, .assign (.tmp 66), 35, none, true⟩])
  (.seq (.region [⟨some 68, .move (.tmp 6), 22, none, true⟩, ⟨some 69, .load 24 (.tmp 8), 24, none, true⟩, ⟨some 70, .call (⟨.value (.func 14), #[.tmp 68, .tmp 69], #[22, 24]⟩), 36, none, true⟩, ⟨some 67, .move (.tmp 70), 36, none, true⟩, ⟨some 71, .extract (.tmp 67) 0, 22, none, true⟩, ⟨some 72, .extract (.tmp 67) 1, 34, none, true⟩, ⟨some 73, .extract (.tmp 67) 2, 2, none, true⟩, ⟨some 74, .extract (.tmp 67) 3, 35, none, true⟩, ⟨some 14, .assign (.tmp 71), 22, none, true⟩, ⟨some 15, .assign (.tmp 72), 34, none, true⟩, ⟨some 16, .assign (.tmp 73), 2, none, true⟩, ⟨some 17, .assign (.tmp 74), 35, none, true⟩])
  (.seq (.region [⟨some 76, .move (.tmp 14), 22, none, true⟩, ⟨some 77, .load 24 (.tmp 9), 24, none, true⟩, ⟨some 78, .call (⟨.value (.func 14), #[.tmp 76, .tmp 77], #[22, 24]⟩), 36, none, true⟩, ⟨some 75, .move (.tmp 78), 36, none, true⟩, ⟨some 79, .extract (.tmp 75) 0, 22, none, true⟩, ⟨some 80, .extract (.tmp 75) 1, 34, none, true⟩, ⟨some 81, .extract (.tmp 75) 2, 2, none, true⟩, ⟨some 82, .extract (.tmp 75) 3, 35, none, true⟩, ⟨some 18, .assign (.tmp 79), 22, none, true⟩, ⟨some 19, .assign (.tmp 80), 34, none, true⟩, ⟨some 20, .assign (.tmp 81), 2, none, true⟩, ⟨some 21, .assign (.tmp 82), 35, none, true⟩])
  (.seq (.seq (.region [⟨some 83, .move (.tmp 13), 35, none, true⟩, ⟨some 84, .binOp .neq 35 (.tmp 83) (.const (.int .i64 0)) 35, 4, none, true⟩, ⟨some 85, .move (.tmp 84), 4, none, true⟩, ⟨some 86, .move (.tmp 17), 35, some (some 85), false⟩, ⟨some 87, .binOp .neq 35 (.tmp 86) (.const (.int .i64 0)) 35, 4, some (some 85), false⟩, ⟨some 88, .pick (.tmp 85) (.const (.bool true)) (.tmp 87), 4, none, true⟩, ⟨some 89, .move (.tmp 88), 4, none, true⟩, ⟨some 90, .move (.tmp 21), 35, some (some 89), false⟩, ⟨some 91, .binOp .neq 35 (.tmp 90) (.const (.int .i64 0)) 35, 4, some (some 89), false⟩, ⟨some 92, .pick (.tmp 89) (.const (.bool true)) (.tmp 91), 4, none, true⟩, ⟨some 93, .move (.tmp 92), 4, none, true⟩, ⟨some 94, .move (.tmp 16), 2, some (some 93), false⟩, ⟨some 95, .move (.tmp 20), 2, some (some 93), false⟩, ⟨some 96, .binOp .add 2 (.tmp 94) (.tmp 95) 2, 2, some (some 93), false⟩, ⟨some 97, .move (.tmp 12), 2, some (some 93), false⟩, ⟨some 98, .binOp .neq 2 (.tmp 96) (.tmp 97) 2, 4, some (some 93), false⟩, ⟨some 99, .pick (.tmp 93) (.const (.bool true)) (.tmp 98), 4, none, true⟩, ⟨some 100, .move (.tmp 99), 4, none, true⟩, ⟨some 101, .move (.tmp 10), 22, some (some 100), false⟩, ⟨some 102, .move (.tmp 18), 22, some (some 100), false⟩, ⟨some 103, .call (⟨.value (.func 18), #[.tmp 101, .tmp 102], #[22, 22]⟩), 4, some (some 100), false⟩, ⟨some 104, .unOp .not 4 (.tmp 103), 4, some (some 100), false⟩, ⟨some 105, .pick (.tmp 100) (.const (.bool true)) (.tmp 104), 4, none, true⟩])
  (.cond (.tmp 105) (.seq (.region [⟨some 4, .assign (.const (.bool false)), 4, none, true⟩])
  .ret) .skip))
  (.seq (.region [⟨some 106, .move (.tmp 11), 34, none, true⟩, ⟨some 107, .call (⟨.value (.func 20), #[.tmp 106], #[34]⟩), 34, none, true⟩, ⟨some 108, .buildSlice 34 0 #[], 34, none, true⟩, ⟨some 109, .move (.tmp 15), 34, none, true⟩, ⟨some 110, .call (⟨.builtin .append, #[.tmp 108, .tmp 109], #[34, 34]⟩), 34, none, true⟩, ⟨some 111, .move (.tmp 19), 34, none, true⟩, ⟨some 112, .call (⟨.builtin .append, #[.tmp 110, .tmp 111], #[34, 34]⟩), 34, none, true⟩, ⟨some 113, .call (⟨.value (.func 20), #[.tmp 112], #[34]⟩), 34, none, true⟩, ⟨some 114, .call (⟨.value (.func 19), #[.tmp 107, .tmp 113], #[34, 34]⟩), 4, none, true⟩, ⟨some 4, .assign (.tmp 114), 4, none, true⟩])
  .ret))))))))))))
noncomputable def f7 : AFn := ⟨115, [.tmp 4], b7⟩
/-- novation/novationlaw17.known -/
noncomputable def b8 : AC :=
  .seq (.region [⟨some 0, .assign (.const (.bool false)), 4, none, true⟩])
  (.seq (.region [⟨some 8, .build 24 #[(0, .const (.int .i64 1)), (1, .const (.int .i64 1)), (3, .const (.int .i64 2)), (4, .const (.int .i64 3)), (5, .const (.int .i64 9))], 24, none, true⟩, ⟨some 9, .build 24 #[(0, .const (.int .i64 2)), (1, .const (.int .i64 2)), (3, .const (.int .i64 2)), (4, .const (.int .i64 4)), (5, .const (.int .i64 11))], 24, none, true⟩, ⟨some 1, .alloc 24, 0, none, true⟩, ⟨some 2, .alloc 24, 0, none, true⟩, ⟨none, .store 24 (.tmp 1) (.tmp 8), 0, none, true⟩, ⟨none, .store 24 (.tmp 2) (.tmp 9), 0, none, true⟩])
  (.seq (.region [⟨some 10, .build 24 #[(0, .const (.int .i64 3)), (1, .const (.int .i64 3)), (3, .const (.int .i64 1)), (4, .const (.int .i64 5)), (5, .const (.int .i64 10))], 24, none, true⟩, ⟨some 3, .alloc 24, 0, none, true⟩, ⟨none, .store 24 (.tmp 3) (.tmp 10), 0, none, true⟩])
  (.seq (.region [⟨some 12, .load 24 (.tmp 1), 24, none, true⟩, ⟨some 13, .load 24 (.tmp 2), 24, none, true⟩, ⟨some 14, .buildSlice 22 2 #[(0, .tmp 12), (1, .tmp 13)], 22, none, true⟩, ⟨some 15, .load 24 (.tmp 3), 24, none, true⟩, ⟨some 16, .call (⟨.value (.func 14), #[.tmp 14, .tmp 15], #[22, 24]⟩), 36, none, true⟩, ⟨some 11, .move (.tmp 16), 36, none, true⟩, ⟨some 17, .extract (.tmp 11) 0, 22, none, true⟩, ⟨some 18, .extract (.tmp 11) 1, 34, none, true⟩, ⟨some 19, .extract (.tmp 11) 2, 2, none, true⟩, ⟨some 20, .extract (.tmp 11) 3, 35, none, true⟩, ⟨some 4, .assign (.tmp 17), 22, none, true⟩, ⟨some 5, .assign (.tmp 18), 34, none, true⟩, ⟨some 6, .assign (.tmp 19), 2, none, true⟩, ⟨some 7, .assign (.tmp 20), 35, none, true⟩])
  (.seq (.region [⟨some 21, .move (.tmp 7), 35, none, true⟩, ⟨some 22, .binOp .eql 35 (.tmp 21) (.const (.int .i64 0)) 35, 4, none, true⟩, ⟨some 23, .move (.tmp 22), 4, none, true⟩, ⟨some 24, .move (.tmp 4), 22, some (some 23), true⟩, ⟨some 25, .load 24 (.tmp 2), 24, some (some 23), true⟩, ⟨some 26, .buildSlice 22 1 #[(0, .tmp 25)], 22, some (some 23), true⟩, ⟨some 27, .call (⟨.value (.func 18), #[.tmp 24, .tmp 26], #[22, 22]⟩), 4, some (some 23), true⟩, ⟨some 28, .pick (.tmp 23) (.tmp 27) (.const (.bool false)), 4, none, true⟩, ⟨some 29, .move (.tmp 28), 4, none, true⟩, ⟨some 30, .move (.tmp 5), 34, some (some 29), true⟩, ⟨some 31, .build 40 #[(0, .const (.int .i64 3)), (1, .const (.int .i64 1)), (3, .const (.int .i64 3)), (4, .const (.int .i64 9))], 40, some (some 29), true⟩, ⟨some 32, .buildSlice 34 1 #[(0, .tmp 31)], 34, some (some 29), true⟩, ⟨some 33, .call (⟨.value (.func 19), #[.tmp 30, .tmp 32], #[34, 34]⟩), 4, some (some 29), true⟩, ⟨some 34, .pick (.tmp 29) (.tmp 33) (.const (.bool false)), 4, none, true⟩, ⟨some 35, .move (.tmp 34), 4, none, true⟩, ⟨some 36, .move (.tmp 6), 2, some (some 35), true⟩, ⟨some 37, .binOp .eql 2 (.tmp 36) (.const (.int .i64 2)) 2, 4, some (some 35), true⟩, ⟨some 38, .pick (.tmp 35) (.tmp 37) (.const (.bool false)), 4, none, true⟩, ⟨some 39, .move (.tmp 38), 4, none, true⟩, ⟨some 40, .load 24 (.tmp 1), 24, some (some 39), true⟩, ⟨some 41, .load 24 (.tmp 3), 24, some (some 39), true⟩, ⟨some 42, .call (⟨.value (.func 17), #[.tmp 40, .tmp 41], #[24, 24]⟩), 4, some (some 39), true⟩, ⟨some 43, .pick (.tmp 39) (.tmp 42) (.const (.bool false)), 4, none, true⟩, ⟨some 44, .move (.tmp 43), 4, none, true⟩, ⟨some 45, .load 24 (.tmp 2), 24, some (some 44), true⟩, ⟨some 46, .load 24 (.tmp 3), 24, some (some 44), true⟩, ⟨some 47, .call (⟨.value (.func 17), #[.tmp 45, .tmp 46], #[24, 24]⟩), 4, some (some 44), true⟩, ⟨some 48, .unOp .not 4 (.tmp 47), 4, some (some 44), true⟩, ⟨some 49, .pick (.tmp 44) (.tmp 48) (.const (.bool false)), 4, none, true⟩, ⟨some 50, .move (.tmp 49), 4, none, true⟩, ⟨some 51, .load 24 (.tmp 1), 24, some (some 50), true⟩, ⟨some 52, .load 24 (.tmp 2), 24, some (some 50), true⟩, ⟨some 53, .load 24 (.tmp 3), 24, some (some 50), true⟩, ⟨some 54, .buildSlice 22 3 #[(0, .tmp 51), (1, .tmp 52), (2, .tmp 53)], 22, some (some 50), true⟩, ⟨some 55, .call (⟨.value (.func 16), #[.tmp 54], #[22]⟩), 4, some (some 50), true⟩, ⟨some 56, .pick (.tmp 50) (.tmp 55) (.const (.bool false)), 4, none, true⟩, ⟨some 57, .move (.tmp 56), 4, none, true⟩, ⟨some 58, .load 24 (.tmp 1), 24, some (some 57), true⟩, ⟨some 59, .load 24 (.tmp 2), 24, some (some 57), true⟩, ⟨some 60, .buildSlice 22 2 #[(0, .tmp 58), (1, .tmp 59)], 22, some (some 57), true⟩, ⟨some 61, .call (⟨.value (.func 16), #[.tmp 60], #[22]⟩), 4, some (some 57), true⟩, ⟨some 62, .unOp .not 4 (.tmp 61), 4, some (some 57), true⟩, ⟨some 63, .pick (.tmp 57) (.tmp 62) (.const (.bool false)), 4, none, true⟩, ⟨some 0, .assign (.tmp 63), 4, none, true⟩])
  .ret))))
noncomputable def f8 : AFn := ⟨64, [.tmp 0], b8⟩
/-- novation/novationlaw17.told -/
noncomputable def b9 : AC :=
  .seq (.region [⟨some 4, .box 24 (.tmp 1), 0, none, true⟩, ⟨some 5, .box 24 (.tmp 2), 0, none, true⟩, ⟨some 6, .assign (.const (.bool false)), 4, none, true⟩])
  (.seq (.region [⟨some 16, .move (.tmp 0), 22, none, true⟩, ⟨some 17, .load 24 (.tmp 4), 24, none, true⟩, ⟨some 18, .call (⟨.value (.func 14), #[.tmp 16, .tmp 17], #[22, 24]⟩), 36, none, true⟩, ⟨some 15, .move (.tmp 18), 36, none, true⟩, ⟨some 19, .extract (.tmp 15) 0, 22, none, true⟩, ⟨some 20, .extract (.tmp 15) 1, 34, none, true⟩, ⟨some 21, .extract (.tmp 15) 2, 2, none, true⟩, ⟨some 22, .extract (.tmp 15) 3, 35, none, true⟩, ⟨some 7, .assign (.tmp 19), 22, none, true⟩, ⟨some 8, .assign (.tmp 20), 34, none, true⟩, ⟨some 9, .assign (.tmp 21), 2, none, true⟩, ⟨some 10, .assign (.tmp 22), 35, none, true⟩])
  (.seq (.region [⟨some 24, .move (.tmp 0), 22, none, true⟩, ⟨some 25, .load 24 (.tmp 4), 24, none, true⟩, ⟨some 26, .call (⟨.value (.func 21), #[.tmp 24, .tmp 25], #[22, 24]⟩), 36, none, true⟩, ⟨some 23, .move (.tmp 26), 36, none, true⟩, ⟨some 27, .extract (.tmp 23) 0, 22, none, true⟩, ⟨some 28, .extract (.tmp 23) 1, 34, none, true⟩, ⟨some 29, .extract (.tmp 23) 2, 2, none, true⟩, ⟨some 30, .extract (.tmp 23) 3, 35, none, true⟩, ⟨some 11, .assign (.tmp 27), 22, none, true⟩, ⟨some 12, .assign (.tmp 28), 34, none, true⟩, ⟨some 13, .assign (.tmp 29), 2, none, true⟩, ⟨some 14, .assign (.tmp 30), 35, none, true⟩])
  (.seq (.draw (drawOf T.c9 3) [0, 1, 2, 3, 4, 5, 6, 7, 8, 9, 10, 11, 12, 13, 14, 15, 16, 17, 18, 19, 20, 22, 23, 21, 24, 25, 26, 27, 28, 30, 29, 31, 32, 33, 34] [[], [], [0, 1], [0, 1, 2], [0, 1, 2, 3], [0, 1, 2, 3], [0, 1, 2, 3, 4, 5], [0, 1, 2, 3, 4, 5, 6], [0, 1, 2, 3, 4, 5, 6, 7], [0, 1, 2, 3, 4, 5, 6, 7, 8], [0, 1, 2, 3, 4, 5, 6, 7, 8], [0, 1, 2, 3, 4, 5, 6, 7, 8, 9, 10], [0, 1, 2, 3, 4, 5, 6, 7, 8, 9, 10, 11], [0, 1, 2, 3, 4, 5, 6, 7, 8, 9, 10, 11, 12], [0, 1, 2, 3, 4, 5, 6, 7, 8, 9, 10, 11, 12, 13], [0, 1, 2, 3, 4, 5, 6, 7, 8, 9, 10, 11, 12, 13], [0, 1, 2, 3, 4, 5, 6, 7, 8, 9, 10, 11, 12, 13, 14, 15], [0, 1, 2, 3, 4, 5, 6, 7, 8, 9, 10, 11, 12, 13, 14, 15, 16], [0, 1, 2, 3, 4, 5, 6, 7, 8, 9, 10, 11, 12, 13, 14, 15, 16, 17], [0, 1, 2, 3, 4, 5, 6, 7, 8, 9, 10, 11, 12, 13, 14, 15, 16, 17, 18], [0, 1, 2, 3, 4, 5, 6, 7, 8, 9, 10, 11, 12, 13, 14, 15, 16, 17, 18], [0, 1, 2, 3, 4, 5, 6, 7, 8, 9, 10, 11, 12, 13, 14, 15, 16, 17, 18, 19, 20], [0, 1, 2, 3, 4, 5, 6, 7, 8, 9, 10, 11, 12, 13, 14, 15, 16, 17, 18], [0, 1, 2, 3, 4, 5, 6, 7, 8, 9, 10, 11, 12, 13, 14, 15, 16, 17, 18], [0, 1, 2, 3, 4, 5, 6, 7, 8, 9, 10, 11, 12, 13, 14, 15, 16, 17, 18, 19, 20, 21, 22, 23], [0, 1, 2, 3, 4, 5, 6, 7, 8, 9, 10, 11, 12, 13, 14, 15, 16, 17, 18, 19, 20, 21, 22, 23, 24], [0, 1, 2, 3, 4, 5, 6, 7, 8, 9, 10, 11, 12, 13, 14, 15, 16, 17, 18, 19, 20, 21, 22, 23, 24, 25], [0, 1, 2, 3, 4, 5, 6, 7, 8, 9, 10, 11, 12, 13, 14, 15, 16, 17, 18, 19, 20, 21, 22, 23, 24, 25, 26], [0, 1, 2, 3, 4, 5, 6, 7, 8, 9, 10, 11, 12, 13, 14, 15, 16, 17, 18, 19, 20, 21, 22, 23, 24, 25, 26, 27], [0, 1, 2, 3, 4, 5, 6, 7, 8, 9, 10, 11, 12, 13, 14, 15, 16, 17, 18, 19, 20, 21, 22, 23, 24, 25, 26, 27, 28], [0, 1, 2, 3, 4, 5, 6, 7, 8, 9, 10, 11, 12, 13, 14, 15, 16, 17, 18, 19, 20, 21, 22, 23, 24, 25, 26, 27], [0, 1, 2, 3, 4, 5, 6, 7, 8, 9, 10, 11, 12, 13, 14, 15, 16, 17, 18, 19, 20, 21, 22, 23, 24, 25, 26, 27, 28, 29, 30], [0, 1, 2, 3, 4, 5, 6, 7, 8, 9, 10, 11, 12, 13, 14, 15, 16, 17, 18, 19, 20, 21, 22, 23, 24, 25, 26, 27, 28, 29, 30, 31], [0, 1, 2, 3, 4, 5, 6, 7, 8, 9, 10, 11, 12, 13, 14, 15, 16, 17, 18, 19, 20, 21, 22, 23, 24, 25, 26, 27, 28, 29, 30, 31, 32], [0, 1, 2, 3, 4, 5, 6, 7, 8, 9, 10, 11, 12, 13, 14, 15, 16, 17, 18, 19, 20, 21, 22, 23, 24, 25, 26, 27, 28, 29, 30, 31, 32, 33]])
  .ret)))
noncomputable def f9 : AFn := ⟨65, [.tmp 6], b9⟩
/-- novation/novationseat.Of -/
noncomputable def b10 : AC :=
  .seq (.region [⟨some 2, .assign (.const (.pointer none)), 28, none, true⟩])
  (.seq (.region [⟨some 3, .move (.tmp 0), 27, none, true⟩, ⟨some 4, .build 47 #[(0, .tmp 3)], 47, none, true⟩, ⟨some 5, .box 47 (.tmp 4), 28, none, true⟩, ⟨some 2, .assign (.tmp 5), 28, none, true⟩])
  .ret)
noncomputable def f10 : AFn := ⟨6, [.tmp 2], b10⟩
/-- novation/novationlaw17.orders -/
noncomputable def b11 : AC :=
  .seq (.region [⟨some 4, .assign (.const (.slice none 0 0)), 22, none, true⟩])
  (.seq (.region [⟨some 5, .assign (.const (.slice none 0 0)), 22, none, true⟩])
  (.seq (.region [⟨some 6, .assign (.const (.int .i64 0)), 2, none, true⟩])
  (.seq (.seq (.region [⟨some 8, .move (.tmp 0), 28, none, true⟩, ⟨some 9, .move (.tmp 1), 3, none, true⟩, ⟨some 10, .binOp .add 3 (.tmp 9) (.const (.int .i64 1)) 3, 3, none, true⟩, ⟨some 11, .call (⟨.value (.func 12), #[.tmp 8, .tmp 10], #[28, 3]⟩), 3, none, true⟩, ⟨some 7, .assign (.tmp 11), 3, none, true⟩])
  (.block 0 (.loop [true, false, false, false, false, true, true, true, false, false, false, false, false, false, false, false, false, false, false, false, false, false, false, false, false, false, false, false, false, false, false, false, false, false, false, false, false, false, false, false, false] (.seq (.seq (.region [⟨some 12, .move (.tmp 7), 3, none, true⟩, ⟨some 13, .binOp .gtr 3 (.tmp 12) (.const (.int .i64 0)) 3, 4, none, true⟩])
  (.cond (.tmp 13) .skip (.exit 0)))
  (.seq (.block 1 (.seq (.region [⟨some 16, .move (.tmp 6), 2, none, true⟩, ⟨some 17, .move (.tmp 0), 28, none, true⟩, ⟨some 18, .call (⟨.value (.func 12), #[.tmp 17, .const (.int .i64 3)], #[28, 3]⟩), 3, none, true⟩, ⟨some 19, .binOp .add 2 (.const (.int .i64 1)) (.tmp 18) 2, 2, none, true⟩, ⟨some 20, .binOp .add 2 (.tmp 16) (.tmp 19) 2, 2, none, true⟩, ⟨some 6, .assign (.tmp 20), 2, none, true⟩])
  (.region [⟨some 21, .move (.tmp 5), 22, none, true⟩, ⟨some 22, .move (.tmp 6), 2, none, true⟩, ⟨some 23, .move (.tmp 0), 28, none, true⟩, ⟨some 24, .call (⟨.value (.func 12), #[.tmp 23, .const (.int .i64 5)], #[28, 3]⟩), 3, none, true⟩, ⟨some 25, .binOp .add 3 (.const (.int .i64 1)) (.tmp 24) 3, 3, none, true⟩, ⟨some 26, .move (.tmp 0), 28, none, true⟩, ⟨some 27, .call (⟨.value (.func 12), #[.tmp 26, .const (.int .i64 2)], #[28, 3]⟩), 3, none, true⟩, ⟨some 28, .move (.tmp 0), 28, none, true⟩, ⟨some 29, .call (⟨.value (.func 12), #[.tmp 28, .const (.int .i64 2)], #[28, 3]⟩), 3, none, true⟩, ⟨some 30, .binOp .add 3 (.const (.int .i64 1)) (.tmp 29) 3, 3, none, true⟩, ⟨some 31, .move (.tmp 0), 28, none, true⟩, ⟨some 32, .call (⟨.value (.func 12), #[.tmp 31, .const (.int .i64 20)], #[28, 3]⟩), 3, none, true⟩, ⟨some 33, .binOp .add 2 (.const (.int .i64 1)) (.tmp 32) 2, 2, none, true⟩, ⟨some 34, .move (.tmp 0), 28, none, true⟩, ⟨some 35, .call (⟨.value (.func 12), #[.tmp 34, .const (.int .i64 10)], #[28, 3]⟩), 3, none, true⟩, ⟨some 36, .binOp .add 2 (.const (.int .i64 95)) (.tmp 35) 2, 2, none, true⟩, ⟨some 37, .build 24 #[(0, .tmp 22), (1, .tmp 25), (2, .tmp 27), (3, .tmp 30), (4, .tmp 33), (5, .tmp 36)], 24, none, true⟩, ⟨some 38, .buildSlice 22 1 #[(0, .tmp 37)], 22, none, true⟩, ⟨some 39, .call (⟨.builtin .append, #[.tmp 21, .tmp 38], #[22, 22]⟩), 22, none, true⟩, ⟨some 5, .assign (.tmp 39), 22, none, true⟩])))
  (.region [⟨some 14, .move (.tmp 7), 3, none, true⟩, ⟨some 15, .binOp .sub 3 (.tmp 14) (.const (.int .i64 1)) 3, 3, none, true⟩, ⟨some 7, .assign (.tmp 15), 3, none, true⟩]))))))
  (.seq (.region [⟨some 40, .move (.tmp 5), 22, none, true⟩, ⟨some 4, .assign (.tmp 40), 22, none, true⟩])
  .ret))))
noncomputable def f11 : AFn := ⟨41, [.tmp 4], b11⟩
/-- (*novation/novationseat.Deck).N -/
noncomputable def b12 : AC :=
  .seq (.region [⟨some 4, .assign (.const (.int .i64 0)), 3, none, true⟩])
  (.seq (.region [⟨some 5, .move (.tmp 0), 28, none, true⟩, ⟨some 6, .call (⟨.value (.func 24), #[.tmp 5], #[28]⟩), 48, none, true⟩, ⟨some 7, .move (.tmp 1), 3, none, true⟩, ⟨some 8, .convert 3 48 (.tmp 7), 48, none, true⟩, ⟨some 9, .binOp .rem 48 (.tmp 6) (.tmp 8) 48, 48, none, true⟩, ⟨some 10, .convert 48 3 (.tmp 9), 3, none, true⟩, ⟨some 4, .assign (.tmp 10), 3, none, true⟩])
  .ret)
noncomputable def f12 : AFn := ⟨11, [.tmp 4], b12⟩
/-- novation/novationlaw17.resting -/
noncomputable def b13 : AC :=
  .seq (.region [⟨some 2, .assign (.const (.slice none 0 0)), 22, none, true⟩])
  (.seq (.region [⟨some 3, .assign (.const (.slice none 0 0)), 22, none, true⟩])
  (.seq (.seq (.region [⟨some 10, .move (.tmp 0), 28, none, true⟩, ⟨some 11, .call (⟨.value (.func 11), #[.tmp 10, .const (.int .i64 40)], #[28, 3]⟩), 22, none, true⟩, ⟨some 12, .call (⟨.builtin .len, #[.tmp 11], #[22]⟩), 3, none, true⟩, ⟨some 13, .move (.const (.int .i64 0)), 3, none, true⟩])
  (.block 0 (.loop [false, false, false, true, false, false, false, false, false, false, false, true, true, true, false, false, false, false, false, false, false, false, false, false, false, false, false, false, false, false, false, false, false, false, false, false, false, false, false, false, false] (.seq (.region [⟨some 14, .binOp .lss 3 (.tmp 13) (.tmp 12) 3, 0, none, true⟩])
  (.seq (.cond (.tmp 14) .skip (.exit 0))
  (.seq (.block 1 (.seq (.region [⟨some 15, .indexAddr 22 (.tmp 11) (.tmp 13), 0, none, true⟩, ⟨some 16, .load 24 (.tmp 15), 24, none, true⟩, ⟨some 5, .alloc 24, 0, none, true⟩, ⟨none, .store 24 (.tmp 5) (.tmp 16), 0, none, true⟩])
  (.seq (.region [⟨some 18, .move (.tmp 3), 22, none, true⟩, ⟨some 19, .load 24 (.tmp 5), 24, none, true⟩, ⟨some 20, .call (⟨.value (.func 21), #[.tmp 18, .tmp 19], #[22, 24]⟩), 36, none, true⟩, ⟨some 17, .move (.tmp 20), 36, none, true⟩, ⟨some 21, .extract (.tmp 17) 0, 22, none, true⟩, ⟨some 22, .extract (.tmp 17) 1, 34, none, true⟩, ⟨some 23, .extract (.tmp 17) 2, 2, none, true⟩, ⟨some 24, .extract (.tmp 17) 3, 35, none, true⟩, ⟨some 6, .assign (.tmp 21), 22, none, true⟩, ⟨some 7, .assign (.tmp 22), 34, none, true⟩, ⟨some 8, .assign (.tmp 23), 2, none, true⟩, ⟨some 9, .assign (.tmp 24), 35, none, true⟩])
  (.seq (.region [⟨some 25, .move (.tmp 6), 22, none, true⟩, ⟨some 3, .assign (.tmp 25), 22, none, true⟩])
  (.seq (.region [⟨some 26, .move (.tmp 8), 2, none, true⟩, ⟨some 27, .binOp .gtr 2 (.tmp 26) (.const (.int .i64 0)) 2, 4, none, true⟩, ⟨some 28, .move (.tmp 27), 4, none, true⟩, ⟨some 29, .move (.tmp 3), 22, some (some 28), true⟩, ⟨some 30, .call (⟨.builtin .len, #[.tmp 29], #[22]⟩), 3, some (some 28), true⟩, ⟨some 31, .binOp .lss 3 (.tmp 30) (.const (.int .i64 32)) 3, 4, some (some 28), true⟩, ⟨some 32, .pick (.tmp 28) (.tmp 31) (.const (.bool false)), 4, none, true⟩])
  (.cond (.tmp 32) (.seq (.region [⟨some 33, .move (.tmp 8), 2, none, true⟩, ⟨some 34, .fieldAddr 24 (.tmp 5) 4, 0, none, true⟩, ⟨none, .store 2 (.tmp 34) (.tmp 33), 0, none, true⟩])
  (.region [⟨some 35, .move (.tmp 3), 22, none, true⟩, ⟨some 36, .load 24 (.tmp 5), 24, none, true⟩, ⟨some 37, .buildSlice 22 1 #[(0, .tmp 36)], 22, none, true⟩, ⟨some 38, .call (⟨.builtin .append, #[.tmp 35, .tmp 37], #[22, 22]⟩), 22, none, true⟩, ⟨some 3, .assign (.tmp 38), 22, none, true⟩])) .skip))))))
  (.region [⟨some 39, .binOp .add 3 (.tmp 13) (.const (.int .i64 1)) 3, 3, none, true⟩, ⟨some 13, .move (.tmp 39), 3, none, true⟩])))))))
  (.seq (.region [⟨some 40, .move (.tmp 3), 22, none, true⟩, ⟨some 2, .assign (.tmp 40), 22, none, true⟩])
  .ret)))
noncomputable def f13 : AFn := ⟨41, [.tmp 2], b13⟩
noncomputable def as14_0 : AC :=
  .region [⟨some 11, .alloc 24, 0, none, true⟩, ⟨none, .store 24 (.tmp 11) (.tmp 34), 0, none, true⟩]
noncomputable def bd14_0 : AC :=
  .block 1 (.seq (.block 2 (.seq (.region [⟨some 36, .load 2 (.tmp 9), 2, none, true⟩, ⟨some 37, .binOp .eql 2 (.tmp 36) (.const (.int .i64 0)) 2, 4, none, true⟩, ⟨some 38, .move (.tmp 37), 4, none, true⟩, ⟨some 39, .load 24 (.tmp 3), 24, some (some 38), false⟩, ⟨some 40, .fieldAddr 24 (.tmp 11) 5, 0, some (some 38), false⟩, ⟨some 41, .load 2 (.tmp 40), 2, some (some 38), false⟩, ⟨some 42, .call (⟨.value (.func 28), #[.tmp 39, .tmp 41], #[24, 2]⟩), 4, some (some 38), false⟩, ⟨some 43, .unOp .not 4 (.tmp 42), 4, some (some 38), false⟩, ⟨some 44, .pick (.tmp 38) (.const (.bool true)) (.tmp 43), 4, none, true⟩, ⟨some 35, .assign (.tmp 44), 4, none, true⟩])
  (.cond (.tmp 35) (.exit 0) (.seq (.region [⟨some 46, .fieldAddr 24 (.tmp 11) 1, 0, none, true⟩, ⟨some 47, .load 3 (.tmp 46), 3, none, true⟩, ⟨some 48, .fieldAddr 24 (.tmp 3) 1, 0, none, true⟩, ⟨some 49, .load 3 (.tmp 48), 3, none, true⟩, ⟨some 50, .binOp .eql 3 (.tmp 47) (.tmp 49) 3, 4, none, true⟩, ⟨some 45, .assign (.tmp 50), 4, none, true⟩])
  (.cond (.tmp 45) (.exit 1) .skip)))))
  (.seq (.region [⟨some 51, .load 2 (.tmp 9), 2, none, true⟩, ⟨some 52, .fieldAddr 24 (.tmp 11) 4, 0, none, true⟩, ⟨some 53, .load 2 (.tmp 52), 2, none, true⟩, ⟨some 54, .call (⟨.builtin .min, #[.tmp 51, .tmp 53], #[2, 2]⟩), 2, none, true⟩, ⟨some 12, .assign (.tmp 54), 2, none, true⟩])
  (.seq (.region [⟨some 55, .fieldAddr 24 (.tmp 3) 1, 0, none, true⟩, ⟨some 56, .load 3 (.tmp 55), 3, none, true⟩, ⟨some 57, .fieldAddr 24 (.tmp 11) 1, 0, none, true⟩, ⟨some 58, .load 3 (.tmp 57), 3, none, true⟩, ⟨some 59, .fieldAddr 24 (.tmp 3) 2, 0, none, true⟩, ⟨some 60, .load 3 (.tmp 59), 3, none, true⟩, ⟨some 61, .move (.tmp 12), 2, none, true⟩, ⟨some 62, .fieldAddr 24 (.tmp 11) 5, 0, none, true⟩, ⟨some 63, .load 2 (.tmp 62), 2, none, true⟩, ⟨some 64, .build 40 #[(0, .tmp 56), (1, .tmp 58), (2, .tmp 60), (3, .tmp 61), (4, .tmp 63)], 40, none, true⟩, ⟨some 13, .alloc 40, 0, none, true⟩, ⟨none, .store 40 (.tmp 13) (.tmp 64), 0, none, true⟩])
  (.seq (.seq (.region [⟨some 65, .fieldAddr 24 (.tmp 3) 3, 0, none, true⟩, ⟨some 66, .load 3 (.tmp 65), 3, none, true⟩, ⟨some 67, .binOp .eql 3 (.tmp 66) (.const (.int .i64 2)) 3, 4, none, true⟩])
  (.cond (.tmp 67) (.draw (drawOf T.c14 12) [0, 1, 2, 3, 4, 5, 6, 7] [[], [0], [], [2], [0, 1], [0, 1, 4], [0, 1, 2, 3, 4, 5], [0, 1, 2, 3, 4, 5, 6]]) .skip))
  (.seq (.draw (drawOf T.c14 13) [0, 1, 2, 4, 5, 6, 3, 7, 8] [[], [], [1], [0, 1, 2], [], [], [4, 5], [0, 1, 2, 3], [0, 1, 2, 3, 4, 5, 6, 7]])
  (.seq (.region [⟨some 81, .load 22 (.tmp 8), 22, none, true⟩, ⟨some 82, .call (⟨.builtin .len, #[.tmp 81], #[22]⟩), 3, none, true⟩, ⟨some 83, .move (.const (.int .i64 0)), 3, none, true⟩])
  (.block 3 (.loop [] (.seq (.region [⟨some 84, .binOp .lss 3 (.tmp 83) (.tmp 82) 3, 0, none, true⟩])
  (.seq (.cond (.tmp 84) .skip (.exit 3))
  (.seq (.block 4 (.seq (.region [⟨some 85, .move (.tmp 83), 3, none, true⟩, ⟨some 14, .assign (.tmp 85), 3, none, true⟩])
  (.seq (.draw (drawOf T.c14 17) [0, 1, 2, 3, 4, 5, 6, 7] [[], [], [0, 1], [0, 1, 2], [0, 1, 2, 3], [], [5], [0, 1, 2, 3, 4, 5, 6]])
  (.cond (.tmp 93) (.region [⟨some 94, .load 22 (.tmp 8), 22, none, true⟩, ⟨some 95, .move (.tmp 14), 3, none, true⟩, ⟨some 96, .indexAddr 22 (.tmp 94) (.tmp 95), 0, none, true⟩, ⟨some 97, .fieldAddr 24 (.tmp 96) 4, 0, none, true⟩, ⟨some 98, .load 2 (.tmp 97), 2, none, true⟩, ⟨some 99, .move (.tmp 12), 2, none, true⟩, ⟨some 100, .binOp .sub 2 (.tmp 98) (.tmp 99) 2, 2, none, true⟩, ⟨some 101, .indexAddr 22 (.tmp 94) (.tmp 95), 0, none, true⟩, ⟨some 102, .fieldAddr 24 (.tmp 101) 4, 0, none, true⟩, ⟨none, .store 2 (.tmp 102) (.tmp 100), 0, none, true⟩]) .skip))))
  (.region [⟨some 103, .binOp .add 3 (.tmp 83) (.const (.int .i64 1)) 3, 3, none, true⟩, ⟨some 83, .move (.tmp 103), 3, none, true⟩]))))))))))))
/-- novation/match.Match -/
noncomputable def b14 : AC :=
  .seq (.region [⟨some 3, .box 24 (.tmp 1), 0, none, true⟩, ⟨some 4, .assign (.const (.slice none 0 0)), 22, none, true⟩, ⟨some 5, .assign (.const (.slice none 0 0)), 34, none, true⟩, ⟨some 6, .assign (.const (.int .i64 0)), 2, none, true⟩, ⟨some 7, .assign (.const (.int .i64 0)), 35, none, true⟩])
  (.scope (.seq (.seq (.region [⟨some 15, .move (.tmp 0), 22, none, true⟩, ⟨some 16, .call (⟨.value (.func 15), #[.tmp 15], #[22]⟩), 4, none, true⟩, ⟨some 17, .unOp .not 4 (.tmp 16), 4, none, true⟩, ⟨some 18, .move (.tmp 17), 4, none, true⟩, ⟨some 19, .load 24 (.tmp 3), 24, some (some 18), false⟩, ⟨some 20, .call (⟨.value (.func 25), #[.tmp 19], #[24]⟩), 4, some (some 18), false⟩, ⟨some 21, .unOp .not 4 (.tmp 20), 4, some (some 18), false⟩, ⟨some 22, .pick (.tmp 18) (.const (.bool true)) (.tmp 21), 4, none, true⟩])
  (.cond (.tmp 22) (.seq (.region [⟨some 4, .assign (.const (.slice none 0 0)), 22, none, true⟩, ⟨some 5, .assign (.const (.slice none 0 0)), 34, none, true⟩, ⟨some 6, .assign (.const (.int .i64 0)), 2, none, true⟩, ⟨some 7, .assign (.const (.int .i64 1)), 35, none, true⟩])
  .ret) .skip))
  (.seq (.draw (drawOf T.c14 3) [0, 2, 3, 1, 4, 5, 6, 7] [[], [0], [], [2], [], [], [0, 1, 4, 5], [0, 1, 2, 3, 4, 5, 6]])
  (.seq (.region [⟨some 10, .alloc 34, 0, none, true⟩])
  (.seq .skip
  (.seq (.seq (.region [⟨some 27, .move (.tmp 0), 22, none, true⟩, ⟨some 28, .fieldAddr 24 (.tmp 3) 2, 0, none, true⟩, ⟨some 29, .load 3 (.tmp 28), 3, none, true⟩, ⟨some 30, .fieldAddr 24 (.tmp 3) 3, 0, none, true⟩, ⟨some 31, .load 3 (.tmp 30), 3, none, true⟩, ⟨some 32, .binOp .sub 3 (.const (.int .i64 3)) (.tmp 31) 3, 3, none, true⟩, ⟨some 33, .call (⟨.value (.func 27), #[.tmp 27, .tmp 29, .tmp 32], #[22, 3, 3]⟩), 53, none, true⟩])
  (.block 0 (.range (.tmp 33) #[34] as14_0 bd14_0)))
  (.seq (.draw (drawOf T.c14 20) [0, 2, 3, 1, 4, 5, 6, 7] [[], [0], [], [], [0, 1], [0, 1, 2, 4], [0, 1, 2, 3, 4, 5], [0, 1, 2, 3, 4, 5, 6]])
  .ret)))))))
noncomputable def f14 : AFn := ⟨108, [.tmp 4, .tmp 5, .tmp 6, .tmp 7], b14⟩
/-- novation/queue.Right -/
noncomputable def b15 : AC :=
  .seq (.region [⟨some 2, .assign (.const (.bool false)), 4, none, true⟩])
  (.seq (.seq (.region [⟨some 5, .move (.tmp 0), 22, none, true⟩, ⟨some 6, .call (⟨.builtin .len, #[.tmp 5], #[22]⟩), 3, none, true⟩, ⟨some 7, .move (.const (.int .i64 0)), 3, none, true⟩])
  (.block 0 (.loop [true, false, false, false, false, true, true, true, false, false, false, false, false, false, false, false, false, false, false, false, false, false, false, false, false, false, false, false, false, false, false, false, false, false] (.seq (.region [⟨some 8, .binOp .lss 3 (.tmp 7) (.tmp 6) 3, 0, none, true⟩])
  (.seq (.cond (.tmp 8) .skip (.exit 0))
  (.seq (.block 1 (.seq (.region [⟨some 9, .move (.tmp 7), 3, none, true⟩, ⟨some 10, .indexAddr 22 (.tmp 5) (.tmp 7), 0, none, true⟩, ⟨some 11, .load 24 (.tmp 10), 24, none, true⟩, ⟨some 4, .alloc 24, 0, none, true⟩, ⟨some 3, .assign (.tmp 9), 3, none, true⟩, ⟨none, .store 24 (.tmp 4) (.tmp 11), 0, none, true⟩])
  (.seq (.draw (drawOf T.c15 4) [0, 1, 2, 3, 4, 5, 6, 7, 8, 9, 10, 11, 12, 13, 14, 15, 16, 17] [[], [0], [0, 1], [0, 1, 2], [0, 1, 2, 3], [0, 1, 2, 3, 4], [0, 1, 2, 3, 4, 5], [0, 1, 2, 3, 4, 5, 6], [0, 1, 2, 3, 4, 5, 6], [0, 1, 2, 3, 4, 5, 6, 8], [0, 1, 2, 3, 4, 5, 6, 7, 8, 9], [0, 1, 2, 3, 4, 5, 6, 7, 8, 9, 10], [0, 1, 2, 3, 4, 5, 6, 7, 8, 9, 10, 11], [0, 1, 2, 3, 4, 5, 6], [0, 1, 2, 3, 4, 5, 6, 13], [0, 1, 2, 3, 4, 5, 6, 7, 8, 9, 10, 11, 12, 13, 14], [0, 1, 2, 3, 4, 5, 6, 7, 8, 9, 10, 11, 12, 13, 14, 15], [0, 1, 2, 3, 4, 5, 6, 7, 8, 9, 10, 11, 12, 13, 14, 15, 16]])
  (.cond (.tmp 29) (.seq (.region [⟨some 2, .assign (.const (.bool false)), 4, none, true⟩])
  .ret) .skip))))
  (.region [⟨some 30, .binOp .add 3 (.tmp 7) (.const (.int .i64 1)) 3, 3, none, true⟩, ⟨some 7, .move (.tmp 30), 3, none, true⟩])))))))
  (.seq (.region [⟨some 31, .move (.tmp 0), 22, none, true⟩, ⟨some 32, .call (⟨.builtin .len, #[.tmp 31], #[22]⟩), 3, none, true⟩, ⟨some 33, .binOp .leq 3 (.tmp 32) (.const (.int .i64 32)) 3, 4, none, true⟩, ⟨some 2, .assign (.tmp 33), 4, none, true⟩])
  .ret))
noncomputable def f15 : AFn := ⟨34, [.tmp 2], b15⟩
/-- novation/match.Crossed -/
noncomputable def b16 : AC :=
  .seq (.region [⟨some 2, .assign (.const (.bool false)), 4, none, true⟩])
  (.seq (.seq (.region [⟨some 5, .move (.tmp 0), 22, none, true⟩, ⟨some 6, .call (⟨.value (.func 15), #[.tmp 5], #[22]⟩), 4, none, true⟩, ⟨some 7, .unOp .not 4 (.tmp 6), 4, none, true⟩])
  (.cond (.tmp 7) (.seq (.region [⟨some 2, .assign (.const (.bool false)), 4, none, true⟩])
  .ret) .skip))
  (.seq (.seq (.region [⟨some 8, .move (.tmp 0), 22, none, true⟩, ⟨some 9, .call (⟨.builtin .len, #[.tmp 8], #[22]⟩), 3, none, true⟩, ⟨some 10, .move (.const (.int .i64 0)), 3, none, true⟩])
  (.block 0 (.loop [true, false, false, false, false, false, false, false, true, true, true, false, false, false, false, false, false, false, false, false, false] (.seq (.region [⟨some 11, .binOp .lss 3 (.tmp 10) (.tmp 9) 3, 0, none, true⟩])
  (.seq (.cond (.tmp 11) .skip (.exit 0))
  (.seq (.block 1 (.seq (.region [⟨some 12, .move (.tmp 10), 3, none, true⟩, ⟨some 13, .indexAddr 22 (.tmp 8) (.tmp 10), 0, none, true⟩, ⟨some 14, .load 24 (.tmp 13), 24, none, true⟩, ⟨some 4, .alloc 24, 0, none, true⟩, ⟨some 3, .assign (.tmp 12), 3, none, true⟩, ⟨none, .store 24 (.tmp 4) (.tmp 14), 0, none, true⟩])
  (.seq (.region [⟨some 15, .move (.tmp 0), 22, none, true⟩, ⟨some 16, .move (.tmp 3), 3, none, true⟩, ⟨some 17, .slice 22 (.tmp 15) none (some (.tmp 16)) none, 22, none, true⟩, ⟨some 18, .makeFunc (.func 32) #[] #[.tmp 4], 50, none, true⟩, ⟨some 19, .call (⟨.value (.func 31), #[.tmp 17, .tmp 18], #[22, 50]⟩), 4, none, true⟩])
  (.cond (.tmp 19) (.seq (.region [⟨some 2, .assign (.const (.bool true)), 4, none, true⟩])
  .ret) .skip))))
  (.region [⟨some 20, .binOp .add 3 (.tmp 10) (.const (.int .i64 1)) 3, 3, none, true⟩, ⟨some 10, .move (.tmp 20), 3, none, true⟩])))))))
  (.seq (.region [⟨some 2, .assign (.const (.bool false)), 4, none, true⟩])
  .ret)))
noncomputable def f16 : AFn := ⟨21, [.tmp 2], b16⟩
/-- novation/match.Cross -/
noncomputable def b17 : AC :=
  .seq (.region [⟨some 2, .box 24 (.tmp 0), 0, none, true⟩, ⟨some 3, .box 24 (.tmp 1), 0, none, true⟩, ⟨some 4, .assign (.const (.bool false)), 4, none, true⟩])
  (.seq (.seq (.region [⟨some 5, .load 24 (.tmp 2), 24, none, true⟩, ⟨some 6, .call (⟨.value (.func 25), #[.tmp 5], #[24]⟩), 4, none, true⟩, ⟨some 7, .unOp .not 4 (.tmp 6), 4, none, true⟩, ⟨some 8, .move (.tmp 7), 4, none, true⟩, ⟨some 9, .load 24 (.tmp 3), 24, some (some 8), false⟩, ⟨some 10, .call (⟨.value (.func 25), #[.tmp 9], #[24]⟩), 4, some (some 8), false⟩, ⟨some 11, .unOp .not 4 (.tmp 10), 4, some (some 8), false⟩, ⟨some 12, .pick (.tmp 8) (.const (.bool true)) (.tmp 11), 4, none, true⟩, ⟨some 13, .move (.tmp 12), 4, none, true⟩, ⟨some 14, .fieldAddr 24 (.tmp 2) 2, 0, some (some 13), false⟩, ⟨some 15, .load 3 (.tmp 14), 3, some (some 13), false⟩, ⟨some 16, .fieldAddr 24 (.tmp 3) 2, 0, some (some 13), false⟩, ⟨some 17, .load 3 (.tmp 16), 3, some (some 13), false⟩, ⟨some 18, .binOp .neq 3 (.tmp 15) (.tmp 17) 3, 4, some (some 13), false⟩, ⟨some 19, .pick (.tmp 13) (.const (.bool true)) (.tmp 18), 4, none, true⟩, ⟨some 20, .move (.tmp 19), 4, none, true⟩, ⟨some 21, .fieldAddr 24 (.tmp 2) 3, 0, some (some 20), false⟩, ⟨some 22, .load 3 (.tmp 21), 3, some (some 20), false⟩, ⟨some 23, .fieldAddr 24 (.tmp 3) 3, 0, some (some 20), false⟩, ⟨some 24, .load 3 (.tmp 23), 3, some (some 20), false⟩, ⟨some 25, .binOp .eql 3 (.tmp 22) (.tmp 24) 3, 4, some (some 20), false⟩, ⟨some 26, .pick (.tmp 20) (.const (.bool true)) (.tmp 25), 4, none, true⟩, ⟨some 27, .move (.tmp 26), 4, none, true⟩, ⟨some 28, .fieldAddr 24 (.tmp 2) 1, 0, some (some 27), false⟩, ⟨some 29, .load 3 (.tmp 28), 3, some (some 27), false⟩, ⟨some 30, .fieldAddr 24 (.tmp 3) 1, 0, some (some 27), false⟩, ⟨some 31, .load 3 (.tmp 30), 3, some (some 27), false⟩, ⟨some 32, .binOp .eql 3 (.tmp 29) (.tmp 31) 3, 4, some (some 27), false⟩, ⟨some 33, .pick (.tmp 27) (.const (.bool true)) (.tmp 32), 4, none, true⟩])
  (.cond (.tmp 33) (.seq (.region [⟨some 4, .assign (.const (.bool false)), 4, none, true⟩])
  .ret) .skip))
  (.seq (.region [⟨some 34, .load 24 (.tmp 2), 24, none, true⟩, ⟨some 35, .fieldAddr 24 (.tmp 3) 5, 0, none, true⟩, ⟨some 36, .load 2 (.tmp 35), 2, none, true⟩, ⟨some 37, .call (⟨.value (.func 28), #[.tmp 34, .tmp 36], #[24, 2]⟩), 4, none, true⟩, ⟨some 4, .assign (.tmp 37), 4, none, true⟩])
  .ret))
noncomputable def f17 : AFn := ⟨38, [.tmp 4], b17⟩
/-- novation/novationhelp.Orders -/
noncomputable def b18 : AC :=
  .seq (.region [⟨some 4, .assign (.const (.bool false)), 4, none, true⟩])
  (.seq (.seq (.region [⟨some 6, .move (.tmp 0), 22, none, true⟩, ⟨some 7, .call (⟨.builtin .len, #[.tmp 6], #[22]⟩), 3, none, true⟩, ⟨some 8, .move (.tmp 1), 22, none, true⟩, ⟨some 9, .call (⟨.builtin .len, #[.tmp 8], #[22]⟩), 3, none, true⟩, ⟨some 10, .binOp .neq 3 (.tmp 7) (.tmp 9) 3, 4, none, true⟩])
  (.cond (.tmp 10) (.seq (.region [⟨some 4, .assign (.const (.bool false)), 4, none, true⟩])
  .ret) .skip))
  (.seq (.seq (.region [⟨some 5, .assign (.const (.int .i64 0)), 3, none, true⟩])
  (.block 0 (.loop [true, true, false, false, false, true, false, false, false, false, false, false, false, false, false, false, false, false, false, false, false, false, false, false, false, false] (.seq (.seq (.region [⟨some 11, .move (.tmp 5), 3, none, true⟩, ⟨some 12, .move (.tmp 0), 22, none, true⟩, ⟨some 13, .call (⟨.builtin .len, #[.tmp 12], #[22]⟩), 3, none, true⟩, ⟨some 14, .binOp .lss 3 (.tmp 11) (.tmp 13) 3, 4, none, true⟩])
  (.cond (.tmp 14) .skip (.exit 0)))
  (.seq (.block 1 (.seq (.draw (drawOf T.c18 6) [0, 1, 2, 3, 4, 5, 6, 7, 8] [[], [], [0, 1], [0, 1, 2], [], [], [4, 5], [4, 5, 6], [0, 1, 2, 3, 4, 5, 6, 7]])
  (.cond (.tmp 25) (.seq (.region [⟨some 4, .assign (.const (.bool false)), 4, none, true⟩])
  .ret) .skip)))
  (.region [⟨some 15, .move (.tmp 5), 3, none, true⟩, ⟨some 16, .binOp .add 3 (.tmp 15) (.const (.int .i64 1)) 3, 3, none, true⟩, ⟨some 5, .assign (.tmp 16), 3, none, true⟩]))))))
  (.seq (.region [⟨some 4, .assign (.const (.bool true)), 4, none, true⟩])
  .ret)))
noncomputable def f18 : AFn := ⟨26, [.tmp 4], b18⟩
/-- novation/novationhelp.Trades -/
noncomputable def b19 : AC :=
  .seq (.region [⟨some 4, .assign (.const (.bool false)), 4, none, true⟩])
  (.seq (.seq (.region [⟨some 6, .move (.tmp 0), 34, none, true⟩, ⟨some 7, .call (⟨.builtin .len, #[.tmp 6], #[34]⟩), 3, none, true⟩, ⟨some 8, .move (.tmp 1), 34, none, true⟩, ⟨some 9, .call (⟨.builtin .len, #[.tmp 8], #[34]⟩), 3, none, true⟩, ⟨some 10, .binOp .neq 3 (.tmp 7) (.tmp 9) 3, 4, none, true⟩])
  (.cond (.tmp 10) (.seq (.region [⟨some 4, .assign (.const (.bool false)), 4, none, true⟩])
  .ret) .skip))
  (.seq (.seq (.region [⟨some 5, .assign (.const (.int .i64 0)), 3, none, true⟩])
  (.block 0 (.loop [true, true, false, false, false, true, false, false, false, false, false, false, false, false, false, false, false, false, false, false, false, false, false, false, false, false] (.seq (.seq (.region [⟨some 11, .move (.tmp 5), 3, none, true⟩, ⟨some 12, .move (.tmp 0), 34, none, true⟩, ⟨some 13, .call (⟨.builtin .len, #[.tmp 12], #[34]⟩), 3, none, true⟩, ⟨some 14, .binOp .lss 3 (.tmp 11) (.tmp 13) 3, 4, none, true⟩])
  (.cond (.tmp 14) .skip (.exit 0)))
  (.seq (.block 1 (.seq (.draw (drawOf T.c19 6) [0, 1, 2, 3, 4, 5, 6, 7, 8] [[], [], [0, 1], [0, 1, 2], [], [], [4, 5], [4, 5, 6], [0, 1, 2, 3, 4, 5, 6, 7]])
  (.cond (.tmp 25) (.seq (.region [⟨some 4, .assign (.const (.bool false)), 4, none, true⟩])
  .ret) .skip)))
  (.region [⟨some 15, .move (.tmp 5), 3, none, true⟩, ⟨some 16, .binOp .add 3 (.tmp 15) (.const (.int .i64 1)) 3, 3, none, true⟩, ⟨some 5, .assign (.tmp 16), 3, none, true⟩]))))))
  (.seq (.region [⟨some 4, .assign (.const (.bool true)), 4, none, true⟩])
  .ret)))
noncomputable def f19 : AFn := ⟨26, [.tmp 4], b19⟩
/-- novation/novationlaw17.joined -/
noncomputable def b20 : AC :=
  .seq (.region [⟨some 2, .assign (.const (.slice none 0 0)), 34, none, true⟩])
  (.seq (.region [⟨some 3, .assign (.const (.slice none 0 0)), 34, none, true⟩])
  (.seq (.seq (.region [⟨some 4, .assign (.const (.int .i64 0)), 3, none, true⟩])
  (.block 0 (.loop [true, false, false, true, true, false, false, false, false, false, false, false, false, false, false, false, false, false, false, false, false, false, false, false, false, false, false, false, false, false, false, false, false, false, false, false, false, false, false, false, false, false, false, false, false, false, false, false, false, false, false, false, false, false, false, false, false, false, false, false, false, false, false, false, false, false, false, false, false, false, false, false, false, false, false, false, false, false, false, false] (.seq (.seq (.region [⟨some 6, .move (.tmp 4), 3, none, true⟩, ⟨some 7, .move (.tmp 0), 34, none, true⟩, ⟨some 8, .call (⟨.builtin .len, #[.tmp 7], #[34]⟩), 3, none, true⟩, ⟨some 9, .binOp .lss 3 (.tmp 6) (.tmp 8) 3, 4, none, true⟩])
  (.cond (.tmp 9) .skip (.exit 0)))
  (.seq (.block 1 (.seq (.seq (.region [⟨some 12, .move (.tmp 3), 34, none, true⟩, ⟨some 13, .call (⟨.builtin .len, #[.tmp 12], #[34]⟩), 3, none, true⟩, ⟨some 5, .assign (.tmp 13), 3, none, true⟩])
  (.seq (.draw (drawOf T.c20 6) [0, 1, 2, 3, 4, 5, 6, 7, 8, 9, 10, 11, 12, 13, 14, 15, 16, 17, 18, 19, 20, 21, 22, 23, 24, 25, 26, 27, 28, 29, 30, 31, 32, 33, 34, 35, 36, 37, 38, 39, 40, 41, 42, 43] [[], [0], [0, 1], [0, 1, 2], [0, 1, 2], [0, 1, 2, 4], [0, 1, 2, 3, 4, 5], [0, 1, 2, 3, 4, 5, 6], [0, 1, 2, 3, 4, 5, 6, 7], [0, 1, 2], [0, 1, 2], [0, 1, 2, 9, 10], [0, 1, 2, 9, 10, 11], [0, 1, 2, 9, 10, 11, 12], [0, 1, 2, 3, 4, 5, 6, 7, 8, 9, 10, 11, 12, 13], [0, 1, 2, 3, 4, 5, 6, 7, 8, 9, 10, 11, 12, 13, 14], [0, 1, 2, 3, 4, 5, 6, 7, 8, 9, 10, 11, 12, 13, 14, 15], [0, 1, 2, 3, 4, 5, 6, 7, 8, 9, 10, 11, 12, 13, 14, 15, 16], [0, 1, 2, 3, 4, 5, 6, 7, 8, 9, 10, 11, 12, 13, 14, 15, 16], [0, 1, 2, 3, 4, 5, 6, 7, 8, 9, 10, 11, 12, 13, 14, 15, 16, 18], [0, 1, 2, 3, 4, 5, 6, 7, 8, 9, 10, 11, 12, 13, 14, 15, 16, 17, 18, 19], [0, 1, 2, 3, 4, 5, 6, 7, 8, 9, 10, 11, 12, 13, 14, 15, 16, 17, 18, 19, 20], [0, 1, 2, 3, 4, 5, 6, 7, 8, 9, 10, 11, 12, 13, 14, 15, 16, 17, 18, 19, 20, 21], [0, 1, 2, 3, 4, 5, 6, 7, 8, 9, 10, 11, 12, 13, 14, 15, 16], [0, 1, 2, 3, 4, 5, 6, 7, 8, 9, 10, 11, 12, 13, 14, 15, 16], [0, 1, 2, 3, 4, 5, 6, 7, 8, 9, 10, 11, 12, 13, 14, 15, 16, 23, 24], [0, 1, 2, 3, 4, 5, 6, 7, 8, 9, 10, 11, 12, 13, 14, 15, 16, 23, 24, 25], [0, 1, 2, 3, 4, 5, 6, 7, 8, 9, 10, 11, 12, 13, 14, 15, 16, 23, 24, 25, 26], [0, 1, 2, 3, 4, 5, 6, 7, 8, 9, 10, 11, 12, 13, 14, 15, 16, 17, 18, 19, 20, 21, 22, 23, 24, 25, 26, 27], [0, 1, 2, 3, 4, 5, 6, 7, 8, 9, 10, 11, 12, 13, 14, 15, 16, 17, 18, 19, 20, 21, 22, 23, 24, 25, 26, 27, 28], [0, 1, 2, 3, 4, 5, 6, 7, 8, 9, 10, 11, 12, 13, 14, 15, 16, 17, 18, 19, 20, 21, 22, 23, 24, 25, 26, 27, 28, 29], [0, 1, 2, 3, 4, 5, 6, 7, 8, 9, 10, 11, 12, 13, 14, 15, 16, 17, 18, 19, 20, 21, 22, 23, 24, 25, 26, 27, 28, 29, 30], [0, 1, 2, 3, 4, 5, 6, 7, 8, 9, 10, 11, 12, 13, 14, 15, 16, 17, 18, 19, 20, 21, 22, 23, 24, 25, 26, 27, 28, 29, 30], [0, 1, 2, 3, 4, 5, 6, 7, 8, 9, 10, 11, 12, 13, 14, 15, 16, 17, 18, 19, 20, 21, 22, 23, 24, 25, 26, 27, 28, 29, 30, 32], [0, 1, 2, 3, 4, 5, 6, 7, 8, 9, 10, 11, 12, 13, 14, 15, 16, 17, 18, 19, 20, 21, 22, 23, 24, 25, 26, 27, 28, 29, 30, 31, 32, 33], [0, 1, 2, 3, 4, 5, 6, 7, 8, 9, 10, 11, 12, 13, 14, 15, 16, 17, 18, 19, 20, 21, 22, 23, 24, 25, 26, 27, 28, 29, 30, 31, 32, 33, 34], [0, 1, 2, 3, 4, 5, 6, 7, 8, 9, 10, 11, 12, 13, 14, 15, 16, 17, 18, 19, 20, 21, 22, 23, 24, 25, 26, 27, 28, 29, 30, 31, 32, 33, 34, 35], [0, 1, 2, 3, 4, 5, 6, 7, 8, 9, 10, 11, 12, 13, 14, 15, 16, 17, 18, 19, 20, 21, 22, 23, 24, 25, 26, 27, 28, 29, 30], [0, 1, 2, 3, 4, 5, 6, 7, 8, 9, 10, 11, 12, 13, 14, 15, 16, 17, 18, 19, 20, 21, 22, 23, 24, 25, 26, 27, 28, 29, 30], [0, 1, 2, 3, 4, 5, 6, 7, 8, 9, 10, 11, 12, 13, 14, 15, 16, 17, 18, 19, 20, 21, 22, 23, 24, 25, 26, 27, 28, 29, 30, 37, 38], [0, 1, 2, 3, 4, 5, 6, 7, 8, 9, 10, 11, 12, 13, 14, 15, 16, 17, 18, 19, 20, 21, 22, 23, 24, 25, 26, 27, 28, 29, 30, 37, 38, 39], [0, 1, 2, 3, 4, 5, 6, 7, 8, 9, 10, 11, 12, 13, 14, 15, 16, 17, 18, 19, 20, 21, 22, 23, 24, 25, 26, 27, 28, 29, 30, 37, 38, 39, 40], [0, 1, 2, 3, 4, 5, 6, 7, 8, 9, 10, 11, 12, 13, 14, 15, 16, 17, 18, 19, 20, 21, 22, 23, 24, 25, 26, 27, 28, 29, 30, 31, 32, 33, 34, 35, 36, 37, 38, 39, 40, 41], [0, 1, 2, 3, 4, 5, 6, 7, 8, 9, 10, 11, 12, 13, 14, 15, 16, 17, 18, 19, 20, 21, 22, 23, 24, 25, 26, 27, 28, 29, 30, 31, 32, 33, 34, 35, 36, 37, 38, 39, 40, 41, 42]])
  (.cond (.tmp 57) (.seq (.draw (drawOf T.c20 7) [0, 1, 2, 3, 4, 5, 6, 7, 8, 9, 10, 11, 12, 13, 14] [[], [], [1], [0, 1, 2], [0, 1, 2, 3], [0, 1, 2, 3, 4], [], [], [6, 7], [6, 7, 8], [6, 7, 8, 9], [0, 1, 2, 3, 4, 5, 6, 7, 8, 9, 10], [0, 1, 2, 3, 4, 5, 6, 7, 8, 9, 10, 11], [0, 1, 2, 3, 4, 5, 6, 7, 8, 9, 10, 11, 12], [0, 1, 2, 3, 4, 5, 6, 7, 8, 9, 10, 11, 12, 13]])
  (.exit 1)) .skip)))
  (.region [⟨some 72, .move (.tmp 3), 34, none, true⟩, ⟨some 73, .move (.tmp 0), 34, none, true⟩, ⟨some 74, .move (.tmp 4), 3, none, true⟩, ⟨some 75, .indexAddr 34 (.tmp 73) (.tmp 74), 0, none, true⟩, ⟨some 76, .load 40 (.tmp 75), 40, none, true⟩, ⟨some 77, .buildSlice 34 1 #[(0, .tmp 76)], 34, none, true⟩, ⟨some 78, .call (⟨.builtin .append, #[.tmp 72, .tmp 77], #[34, 34]⟩), 34, none, true⟩, ⟨some 3, .assign (.tmp 78), 34, none, true⟩])))
  (.region [⟨some 10, .move (.tmp 4), 3, none, true⟩, ⟨some 11, .binOp .add 3 (.tmp 10) (.const (.int .i64 1)) 3, 3, none, true⟩, ⟨some 4, .assign (.tmp 11), 3, none, true⟩]))))))
  (.seq (.region [⟨some 79, .move (.tmp 3), 34, none, true⟩, ⟨some 2, .assign (.tmp 79), 34, none, true⟩])
  .ret)))
noncomputable def f20 : AFn := ⟨80, [.tmp 2], b20⟩
/-- novation/novationref15.Match -/
noncomputable def b21 : AC :=
  .seq (.region [⟨some 3, .box 24 (.tmp 1), 0, none, true⟩, ⟨some 4, .assign (.const (.slice none 0 0)), 22, none, true⟩, ⟨some 5, .assign (.const (.slice none 0 0)), 34, none, true⟩, ⟨some 6, .assign (.const (.int .i64 0)), 2, none, true⟩, ⟨some 7, .assign (.const (.int .i64 0)), 35, none, true⟩])
  (.seq (.seq (.region [⟨some 18, .move (.tmp 0), 22, none, true⟩, ⟨some 19, .call (⟨.value (.func 33), #[.tmp 18], #[22]⟩), 4, none, true⟩, ⟨some 20, .unOp .not 4 (.tmp 19), 4, none, true⟩, ⟨some 21, .move (.tmp 20), 4, none, true⟩, ⟨some 22, .load 24 (.tmp 3), 24, some (some 21), false⟩, ⟨some 23, .call (⟨.value (.func 34), #[.tmp 22], #[24]⟩), 4, some (some 21), false⟩, ⟨some 24, .unOp .not 4 (.tmp 23), 4, some (some 21), false⟩, ⟨some 25, .pick (.tmp 21) (.const (.bool true)) (.tmp 24), 4, none, true⟩])
  (.cond (.tmp 25) (.seq (.region [⟨some 4, .assign (.const (.slice none 0 0)), 22, none, true⟩, ⟨some 5, .assign (.const (.slice none 0 0)), 34, none, true⟩, ⟨some 6, .assign (.const (.int .i64 0)), 2, none, true⟩, ⟨some 7, .assign (.const (.int .i64 1)), 35, none, true⟩])
  .ret) .skip))
  (.seq (.draw (drawOf T.c21 3) [0, 1, 3, 4, 2, 5, 6] [[], [], [0, 1], [], [3], [0, 1, 2], [0, 1, 2, 3, 4, 5]])
  (.seq (.region [⟨some 10, .assign (.const (.slice none 0 0)), 34, none, true⟩])
  (.seq (.region [⟨some 31, .move (.tmp 0), 22, none, true⟩, ⟨some 32, .fieldAddr 24 (.tmp 3) 2, 0, none, true⟩, ⟨some 33, .load 3 (.tmp 32), 3, none, true⟩, ⟨some 34, .fieldAddr 24 (.tmp 3) 3, 0, none, true⟩, ⟨some 35, .load 3 (.tmp 34), 3, none, true⟩, ⟨some 36, .binOp .sub 3 (.const (.int .i64 3)) (.tmp 35) 3, 3, none, true⟩, ⟨some 37, .call (⟨.value (.func 35), #[.tmp 31, .tmp 33, .tmp 36], #[22, 3, 3]⟩), 22, none, true⟩, ⟨some 11, .assign (.tmp 37), 22, none, true⟩])
  (.seq (.seq (.region [⟨some 12, .assign (.const (.int .i64 0)), 3, none, true⟩])
  (.block 0 (.loop [false, false, false, true, false, false, false, false, true, true, true, true, true, false, false, false, false, false, false, false, false, false, false, false, false, false, false, false, false, false, false, false, false, false, false, false, false, false, false, false, false, false, false, false, false, false, false, false, false, false, false, false, false, false, false, false, false, false, false, false, false, false, false, false, false, false, false, false, false, false, false, false, false, false, false, false, false, false, false, false, false, false, false, false, false, false, false, false, false, false, false, false, false, false, false, false, false, false, false, false, false, false, false, false, false, false, false, false, false, false, false, false, false, false, false, false, false, false, false, false, false, false, false, false, false, false, false, false, false, false, false, false, false, false, false, false, false, false, false, false, false, false, false, false, false, false, false, false, false, false, false, false, false, false, false, false, false, false, false, false, false, false, false, false, false, false, false, false, false, false, false, false, false, false] (.seq (.seq (.region [⟨some 38, .move (.tmp 12), 3, none, true⟩, ⟨some 39, .move (.tmp 11), 22, none, true⟩, ⟨some 40, .call (⟨.builtin .len, #[.tmp 39], #[22]⟩), 3, none, true⟩, ⟨some 41, .binOp .lss 3 (.tmp 38) (.tmp 40) 3, 4, none, true⟩, ⟨some 42, .move (.tmp 41), 4, none, true⟩, ⟨some 43, .move (.tmp 9), 2, some (some 42), true⟩, ⟨some 44, .binOp .gtr 2 (.tmp 43) (.const (.int .i64 0)) 2, 4, some (some 42), true⟩, ⟨some 45, .pick (.tmp 42) (.tmp 44) (.const (.bool false)), 4, none, true⟩])
  (.cond (.tmp 45) .skip (.exit 0)))
  (.seq (.block 1 (.seq (.seq (.draw (drawOf T.c21 9) [0, 1, 2, 3, 4, 5, 6, 7, 8, 9, 10, 11, 12, 13, 14, 15, 16, 17, 18, 19, 20, 21, 22, 23, 24, 25, 26, 27] [[], [0], [0, 1], [0, 1, 2], [0, 1, 2, 3], [0, 1, 2, 3], [0, 1, 2, 3, 4, 5], [0, 1, 2, 3, 4, 5, 6], [0, 1, 2, 3, 4, 5, 6, 7], [0, 1, 2, 3], [0, 1, 2, 3, 9], [0, 1, 2, 3, 4, 5, 6, 7, 8, 9, 10], [0, 1, 2, 3, 4, 5, 6, 7, 8, 9, 10, 11], [0, 1, 2, 3, 4, 5, 6, 7, 8, 9, 10, 11, 12], [0, 1, 2, 3, 4, 5, 6, 7, 8, 9, 10, 11, 12, 13], [0, 1, 2, 3, 4, 5, 6, 7, 8, 9, 10, 11, 12, 13, 14], [0, 1, 2, 3, 4, 5, 6, 7, 8, 9, 10, 11, 12, 13, 14, 15], [0, 1, 2, 3, 4, 5, 6, 7, 8, 9, 10, 11, 12, 13, 14, 15, 16], [0, 1, 2, 3, 4, 5, 6, 7, 8, 9, 10, 11, 12, 13, 14, 15, 16, 17], [0, 1, 2, 3, 4, 5, 6, 7, 8, 9, 10, 11, 12, 13, 14, 15, 16, 17], [0, 1, 2, 3, 4, 5, 6, 7, 8, 9, 10, 11, 12, 13, 14, 15, 16, 17, 18, 19], [0, 1, 2, 3, 4, 5, 6, 7, 8, 9, 10, 11, 12, 13, 14, 15, 16, 17, 18, 19, 20], [0, 1, 2, 3, 4, 5, 6, 7, 8, 9, 10, 11, 12, 13, 14, 15, 16, 17, 18, 19, 20, 21], [0, 1, 2, 3, 4, 5, 6, 7, 8, 9, 10, 11, 12, 13, 14, 15, 16, 17], [0, 1, 2, 3, 4, 5, 6, 7, 8, 9, 10, 11, 12, 13, 14, 15, 16, 17, 23], [0, 1, 2, 3, 4, 5, 6, 7, 8, 9, 10, 11, 12, 13, 14, 15, 16, 17, 18, 19, 20, 21, 22, 23, 24], [0, 1, 2, 3, 4, 5, 6, 7, 8, 9, 10, 11, 12, 13, 14, 15, 16, 17, 18, 19, 20, 21, 22, 23, 24, 25], [0, 1, 2, 3, 4, 5, 6, 7, 8, 9, 10, 11, 12, 13, 14, 15, 16, 17, 18, 19, 20, 21, 22, 23, 24, 25, 26]])
  (.cond (.tmp 75) (.exit 0) .skip))
  (.seq (.seq (.draw (drawOf T.c21 10) [0, 1, 2, 3, 4, 5, 6, 7] [[], [], [0, 1], [0, 1, 2], [0, 1, 2, 3], [], [5], [0, 1, 2, 3, 4, 5, 6]])
  (.cond (.tmp 83) (.exit 1) .skip))
  (.seq (.region [⟨some 84, .move (.tmp 9), 2, none, true⟩, ⟨some 85, .move (.tmp 11), 22, none, true⟩, ⟨some 86, .move (.tmp 12), 3, none, true⟩, ⟨some 87, .indexAddr 22 (.tmp 85) (.tmp 86), 0, none, true⟩, ⟨some 88, .fieldAddr 24 (.tmp 87) 4, 0, none, true⟩, ⟨some 89, .load 2 (.tmp 88), 2, none, true⟩, ⟨some 90, .call (⟨.builtin .min, #[.tmp 84, .tmp 89], #[2, 2]⟩), 2, none, true⟩, ⟨some 13, .assign (.tmp 90), 2, none, true⟩])
  (.seq (.draw (drawOf T.c21 12) [16, 0, 1, 2, 3, 4, 5, 6, 7, 8, 9, 10, 11, 12, 13, 14, 15, 17] [[], [0], [], [], [2, 3], [2, 3, 4], [2, 3, 4, 5], [], [7], [], [], [], [10, 11], [10, 11, 12], [10, 11, 12, 13], [0, 1, 2, 3, 4, 5, 6, 7, 8, 9, 10, 11, 12, 13, 14], [], [0, 1, 2, 3, 4, 5, 6, 7, 8, 9, 10, 11, 12, 13, 14, 15, 16]])
  (.seq (.seq (.region [⟨some 107, .fieldAddr 24 (.tmp 3) 3, 0, none, true⟩, ⟨some 108, .load 3 (.tmp 107), 3, none, true⟩, ⟨some 109, .binOp .eql 3 (.tmp 108) (.const (.int .i64 2)) 3, 4, none, true⟩])
  (.cond (.tmp 109) (.draw (drawOf T.c21 14) [0, 1, 2, 3, 4, 5, 6, 7, 8, 9, 10] [[], [], [0, 1], [0, 1, 2], [0, 1, 2, 3], [], [5], [0, 1, 2, 3, 4], [0, 1, 2, 3, 4, 7], [0, 1, 2, 3, 4, 5, 6, 7, 8], [0, 1, 2, 3, 4, 5, 6, 7, 8, 9]]) .skip))
  (.seq (.region [⟨some 119, .move (.tmp 10), 34, none, true⟩, ⟨some 120, .load 40 (.tmp 14), 40, none, true⟩, ⟨some 121, .buildSlice 34 1 #[(0, .tmp 120)], 34, none, true⟩, ⟨some 122, .call (⟨.builtin .append, #[.tmp 119, .tmp 121], #[34, 34]⟩), 34, none, true⟩, ⟨some 10, .assign (.tmp 122), 34, none, true⟩])
  (.seq (.region [⟨some 123, .move (.tmp 9), 2, none, true⟩, ⟨some 124, .move (.tmp 13), 2, none, true⟩, ⟨some 125, .binOp .sub 2 (.tmp 123) (.tmp 124) 2, 2, none, true⟩, ⟨some 9, .assign (.tmp 125), 2, none, true⟩])
  (.seq (.region [⟨some 15, .assign (.const (.int .i64 0)), 3, none, true⟩])
  (.block 2 (.loop [false, false, false, true, false, false, false, false, true, true, true, true, true, true, false, true, false, false, false, false, false, false, false, false, false, false, false, false, false, false, false, false, false, false, false, false, false, false, false, false, false, false, false, false, false, false, false, false, false, false, false, false, false, false, false, false, false, false, false, false, false, false, false, false, false, false, false, false, false, false, false, false, false, false, false, false, false, false, false, false, false, false, false, false, false, false, false, false, false, false, false, false, false, false, false, false, false, false, false, false, false, false, false, false, false, false, false, false, false, false, false, false, false, false, false, false, false, false, false, false, false, false, false, false, false, false, false, false, false, false, false, false, false, false, false, false, false, false, false, false, false, false, false, false, false, false, false, false, false, false, false, false, false, false, false, false, false, false, false, false, false, false, false, false, false, false, false, false, false, false, false, false, false, false] (.seq (.seq (.region [⟨some 126, .move (.tmp 15), 3, none, true⟩, ⟨some 127, .move (.tmp 8), 22, none, true⟩, ⟨some 128, .call (⟨.builtin .len, #[.tmp 127], #[22]⟩), 3, none, true⟩, ⟨some 129, .binOp .lss 3 (.tmp 126) (.tmp 128) 3, 4, none, true⟩])
  (.cond (.tmp 129) .skip (.exit 2)))
  (.seq (.block 3 (.seq (.draw (drawOf T.c21 20) [0, 1, 2, 3, 4, 5, 6, 7, 8, 9, 10] [[], [], [0, 1], [0, 1, 2], [0, 1, 2, 3], [], [], [5, 6], [5, 6, 7], [5, 6, 7, 8], [0, 1, 2, 3, 4, 5, 6, 7, 8, 9]])
  (.cond (.tmp 142) (.region [⟨some 143, .move (.tmp 8), 22, none, true⟩, ⟨some 144, .move (.tmp 15), 3, none, true⟩, ⟨some 145, .indexAddr 22 (.tmp 143) (.tmp 144), 0, none, true⟩, ⟨some 146, .fieldAddr 24 (.tmp 145) 4, 0, none, true⟩, ⟨some 147, .load 2 (.tmp 146), 2, none, true⟩, ⟨some 148, .move (.tmp 13), 2, none, true⟩, ⟨some 149, .binOp .sub 2 (.tmp 147) (.tmp 148) 2, 2, none, true⟩, ⟨some 150, .indexAddr 22 (.tmp 143) (.tmp 144), 0, none, true⟩, ⟨some 151, .fieldAddr 24 (.tmp 150) 4, 0, none, true⟩, ⟨none, .store 2 (.tmp 151) (.tmp 149), 0, none, true⟩]) .skip)))
  (.region [⟨some 130, .move (.tmp 15), 3, none, true⟩, ⟨some 131, .binOp .add 3 (.tmp 130) (.const (.int .i64 1)) 3, 3, none, true⟩, ⟨some 15, .assign (.tmp 131), 3, none, true⟩]))))))))))))))
  (.region [⟨some 46, .move (.tmp 12), 3, none, true⟩, ⟨some 47, .binOp .add 3 (.tmp 46) (.const (.int .i64 1)) 3, 3, none, true⟩, ⟨some 12, .assign (.tmp 47), 3, none, true⟩]))))))
  (.seq (.region [⟨some 16, .assign (.const (.slice none 0 0)), 22, none, true⟩])
  (.seq (.seq (.region [⟨some 17, .assign (.const (.int .i64 0)), 3, none, true⟩])
  (.block 4 (.loop [false, false, false, false, false, false, false, false, true, true, true, false, false, false, false, false, true, true, false, false, false, false, false, false, false, false, false, false, false, false, false, false, false, false, false, false, false, false, false, false, false, false, false, false, false, false, false, false, false, false, false, false, false, false, false, false, false, false, false, false, false, false, false, false, false, false, false, false, false, false, false, false, false, false, false, false, false, false, false, false, false, false, false, false, false, false, false, false, false, false, false, false, false, false, false, false, false, false, false, false, false, false, false, false, false, false, false, false, false, false, false, false, false, false, false, false, false, false, false, false, false, false, false, false, false, false, false, false, false, false, false, false, false, false, false, false, false, false, false, false, false, false, false, false, false, false, false, false, false, false, false, false, false, false, false, false, false, false, false, false, false, false, false, false, false, false, false, false, false, false, false, false, false, false] (.seq (.seq (.region [⟨some 152, .move (.tmp 17), 3, none, true⟩, ⟨some 153, .move (.tmp 8), 22, none, true⟩, ⟨some 154, .call (⟨.builtin .len, #[.tmp 153], #[22]⟩), 3, none, true⟩, ⟨some 155, .binOp .lss 3 (.tmp 152) (.tmp 154) 3, 4, none, true⟩])
  (.cond (.tmp 155) .skip (.exit 4)))
  (.seq (.block 5 (.seq (.region [⟨some 158, .move (.tmp 8), 22, none, true⟩, ⟨some 159, .move (.tmp 17), 3, none, true⟩, ⟨some 160, .indexAddr 22 (.tmp 158) (.tmp 159), 0, none, true⟩, ⟨some 161, .fieldAddr 24 (.tmp 160) 4, 0, none, true⟩, ⟨some 162, .load 2 (.tmp 161), 2, none, true⟩, ⟨some 163, .binOp .gtr 2 (.tmp 162) (.const (.int .i64 0)) 2, 4, none, true⟩])
  (.cond (.tmp 163) (.region [⟨some 164, .move (.tmp 16), 22, none, true⟩, ⟨some 165, .move (.tmp 8), 22, none, true⟩, ⟨some 166, .move (.tmp 17), 3, none, true⟩, ⟨some 167, .indexAddr 22 (.tmp 165) (.tmp 166), 0, none, true⟩, ⟨some 168, .load 24 (.tmp 167), 24, none, true⟩, ⟨some 169, .buildSlice 22 1 #[(0, .tmp 168)], 22, none, true⟩, ⟨some 170, .call (⟨.builtin .append, #[.tmp 164, .tmp 169], #[22, 22]⟩), 22, none, true⟩, ⟨some 16, .assign (.tmp 170), 22, none, true⟩]) .skip)))
  (.region [⟨some 156, .move (.tmp 17), 3, none, true⟩, ⟨some 157, .binOp .add 3 (.tmp 156) (.const (.int .i64 1)) 3, 3, none, true⟩, ⟨some 17, .assign (.tmp 157), 3, none, true⟩]))))))
  (.seq (.region [⟨some 171, .move (.tmp 16), 22, none, true⟩, ⟨some 172, .move (.tmp 10), 34, none, true⟩, ⟨some 173, .move (.tmp 9), 2, none, true⟩, ⟨some 4, .assign (.tmp 171), 22, none, true⟩, ⟨some 5, .assign (.tmp 172), 34, none, true⟩, ⟨some 6, .assign (.tmp 173), 2, none, true⟩, ⟨some 7, .assign (.const (.int .i64 0)), 35, none, true⟩])
  .ret))))))))
noncomputable def f21 : AFn := ⟨174, [.tmp 4, .tmp 5, .tmp 6, .tmp 7], b21⟩
/-- novation/novationref15.Cross -/
noncomputable def b22 : AC :=
  .seq (.region [⟨some 2, .box 24 (.tmp 0), 0, none, true⟩, ⟨some 3, .box 24 (.tmp 1), 0, none, true⟩, ⟨some 4, .assign (.const (.bool false)), 4, none, true⟩])
  (.seq (.seq (.region [⟨some 5, .load 24 (.tmp 2), 24, none, true⟩, ⟨some 6, .call (⟨.value (.func 34), #[.tmp 5], #[24]⟩), 4, none, true⟩, ⟨some 7, .unOp .not 4 (.tmp 6), 4, none, true⟩, ⟨some 8, .move (.tmp 7), 4, none, true⟩, ⟨some 9, .load 24 (.tmp 3), 24, some (some 8), false⟩, ⟨some 10, .call (⟨.value (.func 34), #[.tmp 9], #[24]⟩), 4, some (some 8), false⟩, ⟨some 11, .unOp .not 4 (.tmp 10), 4, some (some 8), false⟩, ⟨some 12, .pick (.tmp 8) (.const (.bool true)) (.tmp 11), 4, none, true⟩, ⟨some 13, .move (.tmp 12), 4, none, true⟩, ⟨some 14, .fieldAddr 24 (.tmp 2) 2, 0, some (some 13), false⟩, ⟨some 15, .load 3 (.tmp 14), 3, some (some 13), false⟩, ⟨some 16, .fieldAddr 24 (.tmp 3) 2, 0, some (some 13), false⟩, ⟨some 17, .load 3 (.tmp 16), 3, some (some 13), false⟩, ⟨some 18, .binOp .neq 3 (.tmp 15) (.tmp 17) 3, 4, some (some 13), false⟩, ⟨some 19, .pick (.tmp 13) (.const (.bool true)) (.tmp 18), 4, none, true⟩, ⟨some 20, .move (.tmp 19), 4, none, true⟩, ⟨some 21, .fieldAddr 24 (.tmp 2) 3, 0, some (some 20), false⟩, ⟨some 22, .load 3 (.tmp 21), 3, some (some 20), false⟩, ⟨some 23, .fieldAddr 24 (.tmp 3) 3, 0, some (some 20), false⟩, ⟨some 24, .load 3 (.tmp 23), 3, some (some 20), false⟩, ⟨some 25, .binOp .eql 3 (.tmp 22) (.tmp 24) 3, 4, some (some 20), false⟩, ⟨some 26, .pick (.tmp 20) (.const (.bool true)) (.tmp 25), 4, none, true⟩, ⟨some 27, .move (.tmp 26), 4, none, true⟩, ⟨some 28, .fieldAddr 24 (.tmp 2) 1, 0, some (some 27), false⟩, ⟨some 29, .load 3 (.tmp 28), 3, some (some 27), false⟩, ⟨some 30, .fieldAddr 24 (.tmp 3) 1, 0, some (some 27), false⟩, ⟨some 31, .load 3 (.tmp 30), 3, some (some 27), false⟩, ⟨some 32, .binOp .eql 3 (.tmp 29) (.tmp 31) 3, 4, some (some 27), false⟩, ⟨some 33, .pick (.tmp 27) (.const (.bool true)) (.tmp 32), 4, none, true⟩])
  (.cond (.tmp 33) (.seq (.region [⟨some 4, .assign (.const (.bool false)), 4, none, true⟩])
  .ret) .skip))
  (.seq (.seq (.region [⟨some 34, .fieldAddr 24 (.tmp 2) 3, 0, none, true⟩, ⟨some 35, .load 3 (.tmp 34), 3, none, true⟩, ⟨some 36, .binOp .eql 3 (.tmp 35) (.const (.int .i64 1)) 3, 4, none, true⟩])
  (.cond (.tmp 36) (.seq (.region [⟨some 37, .fieldAddr 24 (.tmp 2) 5, 0, none, true⟩, ⟨some 38, .load 2 (.tmp 37), 2, none, true⟩, ⟨some 39, .fieldAddr 24 (.tmp 3) 5, 0, none, true⟩, ⟨some 40, .load 2 (.tmp 39), 2, none, true⟩, ⟨some 41, .binOp .geq 2 (.tmp 38) (.tmp 40) 2, 4, none, true⟩, ⟨some 4, .assign (.tmp 41), 4, none, true⟩])
  .ret) .skip))
  (.seq (.region [⟨some 42, .fieldAddr 24 (.tmp 3) 5, 0, none, true⟩, ⟨some 43, .load 2 (.tmp 42), 2, none, true⟩, ⟨some 44, .fieldAddr 24 (.tmp 2) 5, 0, none, true⟩, ⟨some 45, .load 2 (.tmp 44), 2, none, true⟩, ⟨some 46, .binOp .geq 2 (.tmp 43) (.tmp 45) 2, 4, none, true⟩, ⟨some 4, .assign (.tmp 46), 4, none, true⟩])
  .ret)))
noncomputable def f22 : AFn := ⟨47, [.tmp 4], b22⟩
/-- novation/novationref15.Crossed -/
noncomputable def b23 : AC :=
  .seq (.region [⟨some 2, .assign (.const (.bool false)), 4, none, true⟩])
  (.seq (.seq (.region [⟨some 3, .assign (.const (.int .i64 0)), 3, none, true⟩])
  (.block 0 (.loop [true, false, false, true, false, false, false, false, false, false, false, false, false, false, false, false, false, false, false, false, false, false, false, false, false, false, false] (.seq (.seq (.region [⟨some 5, .move (.tmp 3), 3, none, true⟩, ⟨some 6, .move (.tmp 0), 22, none, true⟩, ⟨some 7, .call (⟨.builtin .len, #[.tmp 6], #[22]⟩), 3, none, true⟩, ⟨some 8, .binOp .lss 3 (.tmp 5) (.tmp 7) 3, 4, none, true⟩])
  (.cond (.tmp 8) .skip (.exit 0)))
  (.seq (.block 1 (.seq (.region [⟨some 4, .assign (.const (.int .i64 0)), 3, none, true⟩])
  (.block 2 (.loop [true, false, false, true, true, false, false, false, false, false, false, false, false, false, false, false, false, false, false, false, false, false, false, false, false, false, false] (.seq (.seq (.region [⟨some 11, .move (.tmp 4), 3, none, true⟩, ⟨some 12, .move (.tmp 3), 3, none, true⟩, ⟨some 13, .binOp .lss 3 (.tmp 11) (.tmp 12) 3, 4, none, true⟩])
  (.cond (.tmp 13) .skip (.exit 2)))
  (.seq (.block 3 (.seq (.draw (drawOf T.c23 7) [0, 1, 2, 3, 4, 5, 6, 7, 8] [[], [], [0, 1], [0, 1, 2], [], [], [4, 5], [4, 5, 6], [0, 1, 2, 3, 4, 5, 6, 7]])
  (.cond (.tmp 24) (.seq (.region [⟨some 25, .move (.tmp 0), 22, none, true⟩, ⟨some 26, .call (⟨.value (.func 33), #[.tmp 25], #[22]⟩), 4, none, true⟩, ⟨some 2, .assign (.tmp 26), 4, none, true⟩])
  .ret) .skip)))
  (.region [⟨some 14, .move (.tmp 4), 3, none, true⟩, ⟨some 15, .binOp .add 3 (.tmp 14) (.const (.int .i64 1)) 3, 3, none, true⟩, ⟨some 4, .assign (.tmp 15), 3, none, true⟩])))))))
  (.region [⟨some 9, .move (.tmp 3), 3, none, true⟩, ⟨some 10, .binOp .add 3 (.tmp 9) (.const (.int .i64 1)) 3, 3, none, true⟩, ⟨some 3, .assign (.tmp 10), 3, none, true⟩]))))))
  (.seq (.region [⟨some 2, .assign (.const (.bool false)), 4, none, true⟩])
  .ret))
noncomputable def f23 : AFn := ⟨27, [.tmp 2], b23⟩
/-- (*novation/novationseat.Deck).Next -/
noncomputable def b24 : AC :=
  .seq (.region [⟨some 2, .assign (.const (.int .u64 0)), 48, none, true⟩])
  (.seq (.region [⟨some 3, .assign (.const (.int .u64 0)), 48, none, true⟩])
  (.seq (.seq (.draw (drawOf T.c24 2) [0, 1, 2, 3, 4, 5, 6, 7, 8, 9] [[], [0], [0, 1], [0, 1, 2], [], [4], [4, 5], [4, 5, 6], [4, 5, 6, 7], [0, 1, 2, 3, 4, 5, 6, 7, 8]])
  (.cond (.tmp 13) (.draw (drawOf T.c24 3) [0, 1, 2, 3, 4, 5, 6, 7, 8, 9, 10] [[], [0], [0, 1], [0, 1, 2], [], [4], [4, 5], [4, 5, 6], [0, 1, 2, 3, 4, 5, 6, 7], [0, 1, 2, 3, 4, 5, 6, 7, 8], [0, 1, 2, 3, 4, 5, 6, 7, 8, 9]]) .skip))
  (.seq (.region [⟨some 24, .move (.tmp 0), 28, none, true⟩, ⟨some 25, .nilCheck (.tmp 24), 0, none, true⟩, ⟨some 26, .fieldAddr 47 (.tmp 25) 1, 0, none, true⟩, ⟨some 27, .load 3 (.tmp 26), 3, none, true⟩, ⟨some 28, .binOp .add 3 (.tmp 27) (.const (.int .i64 1)) 3, 3, none, true⟩, ⟨some 29, .nilCheck (.tmp 24), 0, none, true⟩, ⟨some 30, .fieldAddr 47 (.tmp 29) 1, 0, none, true⟩, ⟨none, .store 3 (.tmp 30) (.tmp 28), 0, none, true⟩])
  (.seq (.region [⟨some 31, .move (.tmp 3), 48, none, true⟩, ⟨some 2, .assign (.tmp 31), 48, none, true⟩])
  .ret))))
noncomputable def f24 : AFn := ⟨32, [.tmp 2], b24⟩
/-- novation/queue.Order -/
noncomputable def b25 : AC :=
  .seq (.region [⟨some 1, .box 24 (.tmp 0), 0, none, true⟩, ⟨some 2, .assign (.const (.bool false)), 4, none, true⟩])
  (.seq (.region [⟨some 3, .fieldAddr 24 (.tmp 1) 0, 0, none, true⟩, ⟨some 4, .load 2 (.tmp 3), 2, none, true⟩, ⟨some 5, .binOp .geq 2 (.tmp 4) (.const (.int .i64 1)) 2, 4, none, true⟩, ⟨some 6, .move (.tmp 5), 4, none, true⟩, ⟨some 7, .fieldAddr 24 (.tmp 1) 0, 0, some (some 6), true⟩, ⟨some 8, .load 2 (.tmp 7), 2, some (some 6), true⟩, ⟨some 9, .binOp .leq 2 (.tmp 8) (.const (.int .i64 1099511627776)) 2, 4, some (some 6), true⟩, ⟨some 10, .pick (.tmp 6) (.tmp 9) (.const (.bool false)), 4, none, true⟩, ⟨some 11, .move (.tmp 10), 4, none, true⟩, ⟨some 12, .fieldAddr 24 (.tmp 1) 1, 0, some (some 11), true⟩, ⟨some 13, .load 3 (.tmp 12), 3, some (some 11), true⟩, ⟨some 14, .binOp .geq 3 (.tmp 13) (.const (.int .i64 1)) 3, 4, some (some 11), true⟩, ⟨some 15, .pick (.tmp 11) (.tmp 14) (.const (.bool false)), 4, none, true⟩, ⟨some 16, .move (.tmp 15), 4, none, true⟩, ⟨some 17, .fieldAddr 24 (.tmp 1) 1, 0, some (some 16), true⟩, ⟨some 18, .load 3 (.tmp 17), 3, some (some 16), true⟩, ⟨some 19, .binOp .leq 3 (.tmp 18) (.const (.int .i64 24)) 3, 4, some (some 16), true⟩, ⟨some 20, .pick (.tmp 16) (.tmp 19) (.const (.bool false)), 4, none, true⟩, ⟨some 21, .move (.tmp 20), 4, none, true⟩, ⟨some 22, .fieldAddr 24 (.tmp 1) 2, 0, some (some 21), true⟩, ⟨some 23, .load 3 (.tmp 22), 3, some (some 21), true⟩, ⟨some 24, .binOp .geq 3 (.tmp 23) (.const (.int .i64 0)) 3, 4, some (some 21), true⟩, ⟨some 25, .pick (.tmp 21) (.tmp 24) (.const (.bool false)), 4, none, true⟩, ⟨some 26, .move (.tmp 25), 4, none, true⟩, ⟨some 27, .fieldAddr 24 (.tmp 1) 2, 0, some (some 26), true⟩, ⟨some 28, .load 3 (.tmp 27), 3, some (some 26), true⟩, ⟨some 29, .binOp .lss 3 (.tmp 28) (.const (.int .i64 6)) 3, 4, some (some 26), true⟩, ⟨some 30, .pick (.tmp 26) (.tmp 29) (.const (.bool false)), 4, none, true⟩, ⟨some 31, .move (.tmp 30), 4, none, true⟩, ⟨some 32, .fieldAddr 24 (.tmp 1) 3, 0, some (some 31), true⟩, ⟨some 33, .load 3 (.tmp 32), 3, some (some 31), true⟩, ⟨some 34, .binOp .eql 3 (.tmp 33) (.const (.int .i64 1)) 3, 4, some (some 31), true⟩, ⟨some 35, .move (.tmp 34), 4, some (some 31), true⟩, ⟨some 36, .fieldAddr 24 (.tmp 1) 3, 0, some (some 35), false⟩, ⟨some 37, .load 3 (.tmp 36), 3, some (some 35), false⟩, ⟨some 38, .binOp .eql 3 (.tmp 37) (.const (.int .i64 2)) 3, 4, some (some 35), false⟩, ⟨some 39, .pick (.tmp 35) (.const (.bool true)) (.tmp 38), 4, some (some 31), true⟩, ⟨some 40, .pick (.tmp 31) (.tmp 39) (.const (.bool false)), 4, none, true⟩, ⟨some 41, .move (.tmp 40), 4, none, true⟩, ⟨some 42, .fieldAddr 24 (.tmp 1) 4, 0, some (some 41), true⟩, ⟨some 43, .load 2 (.tmp 42), 2, some (some 41), true⟩, ⟨some 44, .binOp .geq 2 (.tmp 43) (.const (.int .i64 1)) 2, 4, some (some 41), true⟩, ⟨some 45, .pick (.tmp 41) (.tmp 44) (.const (.bool false)), 4, none, true⟩, ⟨some 46, .move (.tmp 45), 4, none, true⟩, ⟨some 47, .fieldAddr 24 (.tmp 1) 4, 0, some (some 46), true⟩, ⟨some 48, .load 2 (.tmp 47), 2, some (some 46), true⟩, ⟨some 49, .binOp .leq 2 (.tmp 48) (.const (.int .i64 1000000000)) 2, 4, some (some 46), true⟩, ⟨some 50, .pick (.tmp 46) (.tmp 49) (.const (.bool false)), 4, none, true⟩, ⟨some 51, .move (.tmp 50), 4, none, true⟩, ⟨some 52, .fieldAddr 24 (.tmp 1) 5, 0, some (some 51), true⟩, ⟨some 53, .load 2 (.tmp 52), 2, some (some 51), true⟩, ⟨some 54, .binOp .geq 2 (.tmp 53) (.const (.int .i64 1)) 2, 4, some (some 51), true⟩, ⟨some 55, .pick (.tmp 51) (.tmp 54) (.const (.bool false)), 4, none, true⟩, ⟨some 56, .move (.tmp 55), 4, none, true⟩, ⟨some 57, .fieldAddr 24 (.tmp 1) 5, 0, some (some 56), true⟩, ⟨some 58, .load 2 (.tmp 57), 2, some (some 56), true⟩, ⟨some 59, .binOp .leq 2 (.tmp 58) (.const (.int .i64 1000000000000)) 2, 4, some (some 56), true⟩, ⟨some 60, .pick (.tmp 56) (.tmp 59) (.const (.bool false)), 4, none, true⟩, ⟨some 2, .assign (.tmp 60), 4, none, true⟩])
  .ret)
noncomputable def f25 : AFn := ⟨61, [.tmp 2], b25⟩
/-- slices.Clone[[]novation/api.Order,novation/api.Order] -/
noncomputable def b26 : AC :=
  .seq (.region [⟨some 2, .assign (.const (.slice none 0 0)), 22, none, true⟩])
  (.seq (.seq (.region [⟨some 3, .move (.tmp 0), 22, none, true⟩, ⟨some 4, .binOp .eql 22 (.tmp 3) (.const (.slice none 0 0)) 22, 4, none, true⟩])
  (.cond (.tmp 4) (.seq (.region [⟨some 2, .assign (.const (.slice none 0 0)), 22, none, true⟩])
  .ret) .skip))
  (.seq (.region [⟨some 5, .buildSlice 22 0 #[], 22, none, true⟩, ⟨some 6, .move (.tmp 0), 22, none, true⟩, ⟨some 7, .call (⟨.builtin .append, #[.tmp 5, .tmp 6], #[22, 22]⟩), 22, none, true⟩, ⟨some 2, .assign (.tmp 7), 22, none, true⟩])
  .ret))
noncomputable def f26 : AFn := ⟨8, [.tmp 2], b26⟩
/-- novation/queue.Walk -/
noncomputable def b27 : AC :=
  .seq (.region [⟨some 6, .assign (.const .nilFunc), 53, none, true⟩])
  (.seq (.region [⟨some 7, .alloc 22, 0, none, true⟩])
  (.seq (.seq (.region [⟨some 11, .move (.tmp 0), 22, none, true⟩, ⟨some 12, .call (⟨.value (.func 15), #[.tmp 11], #[22]⟩), 4, none, true⟩])
  (.cond (.tmp 12) (.seq (.region [⟨some 13, .move (.tmp 0), 22, none, true⟩, ⟨some 14, .call (⟨.builtin .len, #[.tmp 13], #[22]⟩), 3, none, true⟩, ⟨some 15, .move (.const (.int .i64 0)), 3, none, true⟩])
  (.block 0 (.loop [false, true, true, false, false, false, false, true, false, false, false, false, false, true, true, true, false, false, false, false, false, false, false, false, false, false, false, false, false, false, false, false, false, false, false, false, false, false, false, false, false, false, false, false, false, false, false, false, false, false, false] (.seq (.region [⟨some 16, .binOp .lss 3 (.tmp 15) (.tmp 14) 3, 0, none, true⟩])
  (.seq (.cond (.tmp 16) .skip (.exit 0))
  (.seq (.block 1 (.seq (.region [⟨some 17, .indexAddr 22 (.tmp 13) (.tmp 15), 0, none, true⟩, ⟨some 18, .load 24 (.tmp 17), 24, none, true⟩, ⟨some 9, .alloc 24, 0, none, true⟩, ⟨none, .store 24 (.tmp 9) (.tmp 18), 0, none, true⟩])
  (.seq (.seq (.region [⟨some 19, .fieldAddr 24 (.tmp 9) 2, 0, none, true⟩, ⟨some 20, .load 3 (.tmp 19), 3, none, true⟩, ⟨some 21, .move (.tmp 1), 3, none, true⟩, ⟨some 22, .binOp .neq 3 (.tmp 20) (.tmp 21) 3, 4, none, true⟩, ⟨some 23, .move (.tmp 22), 4, none, true⟩, ⟨some 24, .fieldAddr 24 (.tmp 9) 3, 0, some (some 23), false⟩, ⟨some 25, .load 3 (.tmp 24), 3, some (some 23), false⟩, ⟨some 26, .move (.tmp 2), 3, some (some 23), false⟩, ⟨some 27, .binOp .neq 3 (.tmp 25) (.tmp 26) 3, 4, some (some 23), false⟩, ⟨some 28, .pick (.tmp 23) (.const (.bool true)) (.tmp 27), 4, none, true⟩])
  (.cond (.tmp 28) (.exit 1) .skip))
  (.seq (.region [⟨some 29, .load 22 (.tmp 7), 22, none, true⟩, ⟨some 30, .call (⟨.builtin .len, #[.tmp 29], #[22]⟩), 3, none, true⟩, ⟨some 10, .assign (.tmp 30), 3, none, true⟩])
  (.seq (.block 2 (.loop [false, true, true, false, false, false, false, true, false, true, true, false, false, true, true, true, false, false, false, false, false, false, false, false, false, false, false, false, false, false, false, false, false, false, false, false, false, false, false, false, false, false, false, false, false, false, false, false, false, false, false] (.seq (.seq (.draw (drawOf T.c27 8) [0, 1, 2, 3, 4, 5, 6, 7, 8, 9, 10] [[], [0], [0, 1], [0, 1, 2], [0, 1, 2], [0, 1, 2], [0, 1, 2, 5], [0, 1, 2, 4, 5, 6], [0, 1, 2, 4, 5, 6, 7], [0, 1, 2, 3, 4, 5, 6, 7, 8], [0, 1, 2, 3, 4, 5, 6, 7, 8, 9]])
  (.cond (.tmp 41) .skip (.exit 2)))
  (.block 3 (.region [⟨some 42, .move (.tmp 10), 3, none, true⟩, ⟨some 43, .binOp .sub 3 (.tmp 42) (.const (.int .i64 1)) 3, 3, none, true⟩, ⟨some 10, .assign (.tmp 43), 3, none, true⟩])))))
  (.region [⟨some 44, .load 22 (.tmp 7), 22, none, true⟩, ⟨some 45, .move (.tmp 10), 3, none, true⟩, ⟨some 46, .load 24 (.tmp 9), 24, none, true⟩, ⟨some 47, .buildSlice 22 1 #[(0, .tmp 46)], 22, none, true⟩, ⟨some 48, .call (⟨.value (.func 37), #[.tmp 44, .tmp 45, .tmp 47], #[22, 3, 22]⟩), 22, none, true⟩, ⟨none, .store 22 (.tmp 7) (.tmp 48), 0, none, true⟩]))))))
  (.region [⟨some 49, .binOp .add 3 (.tmp 15) (.const (.int .i64 1)) 3, 3, none, true⟩, ⟨some 15, .move (.tmp 49), 3, none, true⟩]))))))) .skip))
  (.seq (.region [⟨some 50, .makeFunc (.func 38) #[] #[.tmp 7], 52, none, true⟩, ⟨some 6, .assign (.tmp 50), 53, none, true⟩])
  .ret)))
noncomputable def f27 : AFn := ⟨51, [.tmp 6], b27⟩
/-- novation/match.reaches -/
noncomputable def b28 : AC :=
  .seq (.region [⟨some 2, .box 24 (.tmp 0), 0, none, true⟩, ⟨some 4, .assign (.const (.bool false)), 4, none, true⟩])
  (.seq (.seq (.region [⟨some 5, .fieldAddr 24 (.tmp 2) 3, 0, none, true⟩, ⟨some 6, .load 3 (.tmp 5), 3, none, true⟩, ⟨some 7, .binOp .eql 3 (.tmp 6) (.const (.int .i64 1)) 3, 4, none, true⟩])
  (.cond (.tmp 7) (.seq (.region [⟨some 8, .fieldAddr 24 (.tmp 2) 5, 0, none, true⟩, ⟨some 9, .load 2 (.tmp 8), 2, none, true⟩, ⟨some 10, .move (.tmp 1), 2, none, true⟩, ⟨some 11, .binOp .geq 2 (.tmp 9) (.tmp 10) 2, 4, none, true⟩, ⟨some 4, .assign (.tmp 11), 4, none, true⟩])
  .ret) .skip))
  (.seq (.region [⟨some 12, .fieldAddr 24 (.tmp 2) 5, 0, none, true⟩, ⟨some 13, .load 2 (.tmp 12), 2, none, true⟩, ⟨some 14, .move (.tmp 1), 2, none, true⟩, ⟨some 15, .binOp .leq 2 (.tmp 13) (.tmp 14) 2, 4, none, true⟩, ⟨some 4, .assign (.tmp 15), 4, none, true⟩])
  .ret))
noncomputable def f28 : AFn := ⟨16, [.tmp 4], b28⟩
/-- slices.DeleteFunc[[]novation/api.Order,novation/api.Order] -/
noncomputable def b29 : AC :=
  .seq (.region [⟨some 4, .assign (.const (.slice none 0 0)), 22, none, true⟩])
  (.seq (.region [⟨some 8, .move (.tmp 0), 22, none, true⟩, ⟨some 9, .move (.tmp 1), 50, none, true⟩, ⟨some 10, .call (⟨.value (.func 39), #[.tmp 8, .tmp 9], #[22, 50]⟩), 3, none, true⟩, ⟨some 5, .assign (.tmp 10), 3, none, true⟩])
  (.seq (.seq (.region [⟨some 11, .move (.tmp 5), 3, none, true⟩, ⟨some 12, .binOp .eql 3 (.tmp 11) (.const (.int .i64 (-1))) 3, 4, none, true⟩])
  (.cond (.tmp 12) (.seq (.region [⟨some 13, .move (.tmp 0), 22, none, true⟩, ⟨some 4, .assign (.tmp 13), 22, none, true⟩])
  .ret) .skip))
  (.seq (.seq (.region [⟨some 14, .move (.tmp 5), 3, none, true⟩, ⟨some 15, .binOp .add 3 (.tmp 14) (.const (.int .i64 1)) 3, 3, none, true⟩, ⟨some 6, .assign (.tmp 15), 3, none, true⟩])
  (.block 0 (.loop [true, true, false, false, false, true, true, false, false, false, false, false, false, false, false, false, false, false, false, false, false, false, false, false, false, false, false, false, false, false, false, false, false, false, false, false, false, false, false, false, false, false] (.seq (.seq (.region [⟨some 16, .move (.tmp 6), 3, none, true⟩, ⟨some 17, .move (.tmp 0), 22, none, true⟩, ⟨some 18, .call (⟨.builtin .len, #[.tmp 17], #[22]⟩), 3, none, true⟩, ⟨some 19, .binOp .lss 3 (.tmp 16) (.tmp 18) 3, 4, none, true⟩])
  (.cond (.tmp 19) .skip (.exit 0)))
  (.seq (.block 1 (.seq (.region [⟨some 22, .move (.tmp 0), 22, none, true⟩, ⟨some 23, .move (.tmp 6), 3, none, true⟩, ⟨some 24, .indexAddr 22 (.tmp 22) (.tmp 23), 0, none, true⟩, ⟨some 25, .load 24 (.tmp 24), 24, none, true⟩, ⟨some 7, .alloc 24, 0, none, true⟩, ⟨none, .store 24 (.tmp 7) (.tmp 25), 0, none, true⟩])
  (.seq (.region [⟨some 26, .move (.tmp 1), 50, none, true⟩, ⟨some 27, .load 24 (.tmp 7), 24, none, true⟩, ⟨some 28, .call (⟨.value (.tmp 26), #[.tmp 27], #[24]⟩), 4, none, true⟩, ⟨some 29, .unOp .not 4 (.tmp 28), 4, none, true⟩])
  (.cond (.tmp 29) (.seq (.region [⟨some 30, .move (.tmp 0), 22, none, true⟩, ⟨some 31, .move (.tmp 5), 3, none, true⟩, ⟨some 32, .load 24 (.tmp 7), 24, none, true⟩, ⟨some 33, .indexAddr 22 (.tmp 30) (.tmp 31), 0, none, true⟩, ⟨none, .store 24 (.tmp 33) (.tmp 32), 0, none, true⟩])
  (.region [⟨some 34, .move (.tmp 5), 3, none, true⟩, ⟨some 35, .binOp .add 3 (.tmp 34) (.const (.int .i64 1)) 3, 3, none, true⟩, ⟨some 5, .assign (.tmp 35), 3, none, true⟩])) .skip))))
  (.region [⟨some 20, .move (.tmp 6), 3, none, true⟩, ⟨some 21, .binOp .add 3 (.tmp 20) (.const (.int .i64 1)) 3, 3, none, true⟩, ⟨some 6, .assign (.tmp 21), 3, none, true⟩]))))))
  (.seq (.region [⟨some 36, .move (.tmp 0), 22, none, true⟩, ⟨some 37, .move (.tmp 5), 3, none, true⟩, ⟨some 38, .slice 22 (.tmp 36) (some (.tmp 37)) none none, 22, none, true⟩, ⟨none, .call (⟨.builtin .clear, #[.tmp 38], #[22]⟩), 0, none, true⟩])
  (.seq (.region [⟨some 39, .move (.tmp 0), 22, none, true⟩, ⟨some 40, .move (.tmp 5), 3, none, true⟩, ⟨some 41, .slice 22 (.tmp 39) none (some (.tmp 40)) none, 22, none, true⟩, ⟨some 4, .assign (.tmp 41), 22, none, true⟩])
  .ret)))))
noncomputable def f29 : AFn := ⟨42, [.tmp 4], b29⟩
/-- novation/match.Match$1 -/
noncomputable def b30 : AC :=
  .seq (.region [⟨some 1, .box 24 (.tmp 0), 0, none, true⟩, ⟨some 2, .assign (.const (.bool false)), 4, none, true⟩])
  (.seq (.region [⟨some 3, .fieldAddr 24 (.tmp 1) 4, 0, none, true⟩, ⟨some 4, .load 2 (.tmp 3), 2, none, true⟩, ⟨some 5, .binOp .eql 2 (.tmp 4) (.const (.int .i64 0)) 2, 4, none, true⟩, ⟨some 2, .assign (.tmp 5), 4, none, true⟩])
  .ret)
noncomputable def f30 : AFn := ⟨6, [.tmp 2], b30⟩
/-- slices.ContainsFunc[[]novation/api.Order,novation/api.Order] -/
noncomputable def b31 : AC :=
  .seq (.region [⟨some 4, .assign (.const (.bool false)), 4, none, true⟩])
  (.seq (.region [⟨some 5, .move (.tmp 0), 22, none, true⟩, ⟨some 6, .move (.tmp 1), 50, none, true⟩, ⟨some 7, .call (⟨.value (.func 39), #[.tmp 5, .tmp 6], #[22, 50]⟩), 3, none, true⟩, ⟨some 8, .binOp .geq 3 (.tmp 7) (.const (.int .i64 0)) 3, 4, none, true⟩, ⟨some 4, .assign (.tmp 8), 4, none, true⟩])
  .ret)
noncomputable def f31 : AFn := ⟨9, [.tmp 4], b31⟩
/-- novation/match.Crossed$1 -/
noncomputable def b32 : AC :=
  .seq (.region [⟨some 2, .box 24 (.tmp 0), 0, none, true⟩, ⟨some 3, .assign (.const (.bool false)), 4, none, true⟩])
  (.seq (.region [⟨some 4, .load 24 (.tmp 1), 24, none, true⟩, ⟨some 5, .load 24 (.tmp 2), 24, none, true⟩, ⟨some 6, .call (⟨.value (.func 17), #[.tmp 4, .tmp 5], #[24, 24]⟩), 4, none, true⟩, ⟨some 3, .assign (.tmp 6), 4, none, true⟩])
  .ret)
noncomputable def f32 : AFn := ⟨7, [.tmp 3], b32⟩
/-- novation/novationref15.Orders -/
noncomputable def b33 : AC :=
  .seq (.region [⟨some 2, .assign (.const (.bool false)), 4, none, true⟩])
  (.seq (.seq (.region [⟨some 4, .move (.tmp 0), 22, none, true⟩, ⟨some 5, .call (⟨.builtin .len, #[.tmp 4], #[22]⟩), 3, none, true⟩, ⟨some 6, .binOp .gtr 3 (.tmp 5) (.const (.int .i64 32)) 3, 4, none, true⟩])
  (.cond (.tmp 6) (.seq (.region [⟨some 2, .assign (.const (.bool false)), 4, none, true⟩])
  .ret) .skip))
  (.seq (.seq (.region [⟨some 3, .assign (.const (.int .i64 0)), 3, none, true⟩])
  (.block 0 (.loop [true, false, false, true, false, false, false, false, false, false, false, false, false, false, false, false, false, false, false, false, false, false, false, false, false, false, false, false, false, false, false, false, false, false, false, false, false] (.seq (.seq (.region [⟨some 7, .move (.tmp 3), 3, none, true⟩, ⟨some 8, .move (.tmp 0), 22, none, true⟩, ⟨some 9, .call (⟨.builtin .len, #[.tmp 8], #[22]⟩), 3, none, true⟩, ⟨some 10, .binOp .lss 3 (.tmp 7) (.tmp 9) 3, 4, none, true⟩])
  (.cond (.tmp 10) .skip (.exit 0)))
  (.seq (.block 1 (.seq (.draw (drawOf T.c33 6) [0, 1, 2, 3, 4, 5, 6, 7, 8, 9, 10, 11, 12, 13, 14, 15, 16, 17, 18, 19, 20, 21, 22, 23] [[], [], [0, 1], [0, 1, 2], [0, 1, 2, 3], [0, 1, 2, 3, 4], [0, 1, 2, 3, 4, 5], [0, 1, 2, 3, 4, 5, 6], [0, 1, 2, 3, 4, 5, 6, 7], [0, 1, 2, 3, 4, 5, 6, 7, 8], [0, 1, 2, 3, 4, 5, 6, 7, 8, 9], [0, 1, 2, 3, 4, 5, 6, 7, 8, 9], [0, 1, 2, 3, 4, 5, 6, 7, 8, 9, 10, 11], [0, 1, 2, 3, 4, 5, 6, 7, 8, 9, 10, 11, 12], [0, 1, 2, 3, 4, 5, 6, 7, 8, 9, 10, 11, 12, 13], [0, 1, 2, 3, 4, 5, 6, 7, 8, 9], [0, 1, 2, 3, 4, 5, 6, 7, 8, 9], [0, 1, 2, 3, 4, 5, 6, 7, 8, 9, 16], [0, 1, 2, 3, 4, 5, 6, 7, 8, 9, 15, 16, 17], [0, 1, 2, 3, 4, 5, 6, 7, 8, 9, 15, 16, 17, 18], [0, 1, 2, 3, 4, 5, 6, 7, 8, 9, 15, 16, 17, 18, 19], [0, 1, 2, 3, 4, 5, 6, 7, 8, 9, 10, 11, 12, 13, 14, 15, 16, 17, 18, 19, 20], [0, 1, 2, 3, 4, 5, 6, 7, 8, 9, 10, 11, 12, 13, 14, 15, 16, 17, 18, 19, 20, 21], [0, 1, 2, 3, 4, 5, 6, 7, 8, 9, 10, 11, 12, 13, 14, 15, 16, 17, 18, 19, 20, 21, 22]])
  (.cond (.tmp 36) (.seq (.region [⟨some 2, .assign (.const (.bool false)), 4, none, true⟩])
  .ret) .skip)))
  (.region [⟨some 11, .move (.tmp 3), 3, none, true⟩, ⟨some 12, .binOp .add 3 (.tmp 11) (.const (.int .i64 1)) 3, 3, none, true⟩, ⟨some 3, .assign (.tmp 12), 3, none, true⟩]))))))
  (.seq (.region [⟨some 2, .assign (.const (.bool true)), 4, none, true⟩])
  .ret)))
noncomputable def f33 : AFn := ⟨37, [.tmp 2], b33⟩
/-- novation/novationref15.RightOrder -/
noncomputable def b34 : AC :=
  .seq (.region [⟨some 1, .box 24 (.tmp 0), 0, none, true⟩, ⟨some 2, .assign (.const (.bool false)), 4, none, true⟩])
  (.seq (.region [⟨some 3, .fieldAddr 24 (.tmp 1) 0, 0, none, true⟩, ⟨some 4, .load 2 (.tmp 3), 2, none, true⟩, ⟨some 5, .binOp .geq 2 (.tmp 4) (.const (.int .i64 1)) 2, 4, none, true⟩, ⟨some 6, .move (.tmp 5), 4, none, true⟩, ⟨some 7, .fieldAddr 24 (.tmp 1) 0, 0, some (some 6), true⟩, ⟨some 8, .load 2 (.tmp 7), 2, some (some 6), true⟩, ⟨some 9, .binOp .leq 2 (.tmp 8) (.const (.int .i64 1099511627776)) 2, 4, some (some 6), true⟩, ⟨some 10, .pick (.tmp 6) (.tmp 9) (.const (.bool false)), 4, none, true⟩, ⟨some 11, .move (.tmp 10), 4, none, true⟩, ⟨some 12, .fieldAddr 24 (.tmp 1) 1, 0, some (some 11), true⟩, ⟨some 13, .load 3 (.tmp 12), 3, some (some 11), true⟩, ⟨some 14, .binOp .geq 3 (.tmp 13) (.const (.int .i64 1)) 3, 4, some (some 11), true⟩, ⟨some 15, .pick (.tmp 11) (.tmp 14) (.const (.bool false)), 4, none, true⟩, ⟨some 16, .move (.tmp 15), 4, none, true⟩, ⟨some 17, .fieldAddr 24 (.tmp 1) 1, 0, some (some 16), true⟩, ⟨some 18, .load 3 (.tmp 17), 3, some (some 16), true⟩, ⟨some 19, .binOp .leq 3 (.tmp 18) (.const (.int .i64 24)) 3, 4, some (some 16), true⟩, ⟨some 20, .pick (.tmp 16) (.tmp 19) (.const (.bool false)), 4, none, true⟩, ⟨some 21, .move (.tmp 20), 4, none, true⟩, ⟨some 22, .fieldAddr 24 (.tmp 1) 2, 0, some (some 21), true⟩, ⟨some 23, .load 3 (.tmp 22), 3, some (some 21), true⟩, ⟨some 24, .binOp .geq 3 (.tmp 23) (.const (.int .i64 0)) 3, 4, some (some 21), true⟩, ⟨some 25, .pick (.tmp 21) (.tmp 24) (.const (.bool false)), 4, none, true⟩, ⟨some 26, .move (.tmp 25), 4, none, true⟩, ⟨some 27, .fieldAddr 24 (.tmp 1) 2, 0, some (some 26), true⟩, ⟨some 28, .load 3 (.tmp 27), 3, some (some 26), true⟩, ⟨some 29, .binOp .lss 3 (.tmp 28) (.const (.int .i64 6)) 3, 4, some (some 26), true⟩, ⟨some 30, .pick (.tmp 26) (.tmp 29) (.const (.bool false)), 4, none, true⟩, ⟨some 31, .move (.tmp 30), 4, none, true⟩, ⟨some 32, .fieldAddr 24 (.tmp 1) 3, 0, some (some 31), true⟩, ⟨some 33, .load 3 (.tmp 32), 3, some (some 31), true⟩, ⟨some 34, .binOp .eql 3 (.tmp 33) (.const (.int .i64 1)) 3, 4, some (some 31), true⟩, ⟨some 35, .move (.tmp 34), 4, some (some 31), true⟩, ⟨some 36, .fieldAddr 24 (.tmp 1) 3, 0, some (some 35), false⟩, ⟨some 37, .load 3 (.tmp 36), 3, some (some 35), false⟩, ⟨some 38, .binOp .eql 3 (.tmp 37) (.const (.int .i64 2)) 3, 4, some (some 35), false⟩, ⟨some 39, .pick (.tmp 35) (.const (.bool true)) (.tmp 38), 4, some (some 31), true⟩, ⟨some 40, .pick (.tmp 31) (.tmp 39) (.const (.bool false)), 4, none, true⟩, ⟨some 41, .move (.tmp 40), 4, none, true⟩, ⟨some 42, .fieldAddr 24 (.tmp 1) 4, 0, some (some 41), true⟩, ⟨some 43, .load 2 (.tmp 42), 2, some (some 41), true⟩, ⟨some 44, .binOp .geq 2 (.tmp 43) (.const (.int .i64 1)) 2, 4, some (some 41), true⟩, ⟨some 45, .pick (.tmp 41) (.tmp 44) (.const (.bool false)), 4, none, true⟩, ⟨some 46, .move (.tmp 45), 4, none, true⟩, ⟨some 47, .fieldAddr 24 (.tmp 1) 4, 0, some (some 46), true⟩, ⟨some 48, .load 2 (.tmp 47), 2, some (some 46), true⟩, ⟨some 49, .binOp .leq 2 (.tmp 48) (.const (.int .i64 1000000000)) 2, 4, some (some 46), true⟩, ⟨some 50, .pick (.tmp 46) (.tmp 49) (.const (.bool false)), 4, none, true⟩, ⟨some 51, .move (.tmp 50), 4, none, true⟩, ⟨some 52, .fieldAddr 24 (.tmp 1) 5, 0, some (some 51), true⟩, ⟨some 53, .load 2 (.tmp 52), 2, some (some 51), true⟩, ⟨some 54, .call (⟨.value (.func 40), #[.tmp 53], #[2]⟩), 4, some (some 51), true⟩, ⟨some 55, .pick (.tmp 51) (.tmp 54) (.const (.bool false)), 4, none, true⟩, ⟨some 2, .assign (.tmp 55), 4, none, true⟩])
  .ret)
noncomputable def f34 : AFn := ⟨56, [.tmp 2], b34⟩
/-- novation/novationref15.Walk -/
noncomputable def b35 : AC :=
  .seq (.region [⟨some 6, .assign (.const (.slice none 0 0)), 22, none, true⟩])
  (.seq (.region [⟨some 7, .assign (.const (.slice none 0 0)), 22, none, true⟩])
  (.seq (.seq (.region [⟨some 11, .move (.tmp 0), 22, none, true⟩, ⟨some 12, .call (⟨.value (.func 33), #[.tmp 11], #[22]⟩), 4, none, true⟩, ⟨some 13, .unOp .not 4 (.tmp 12), 4, none, true⟩])
  (.cond (.tmp 13) (.seq (.region [⟨some 14, .move (.tmp 7), 22, none, true⟩, ⟨some 6, .assign (.tmp 14), 22, none, true⟩])
  .ret) .skip))
  (.seq (.seq (.region [⟨some 8, .assign (.const (.int .i64 0)), 3, none, true⟩])
  (.block 0 (.loop [true, true, true, false, false, false, false, true, true, false, false, false, false, false, false, false, false, false, false, false, false, false, false, false, false, false, false, false, false, false, false, false, false, false, false, false, false, false, false, false, false, false, false, false, false, false, false, false, false, false, false, false, false, false, false, false, false, false, false, false, false, false, false, false, false, false, false, false, false, false, false, false] (.seq (.seq (.region [⟨some 15, .move (.tmp 8), 3, none, true⟩, ⟨some 16, .move (.tmp 0), 22, none, true⟩, ⟨some 17, .call (⟨.builtin .len, #[.tmp 16], #[22]⟩), 3, none, true⟩, ⟨some 18, .binOp .lss 3 (.tmp 15) (.tmp 17) 3, 4, none, true⟩])
  (.cond (.tmp 18) .skip (.exit 0)))
  (.seq (.block 1 (.seq (.seq (.region [⟨some 21, .move (.tmp 0), 22, none, true⟩, ⟨some 22, .move (.tmp 8), 3, none, true⟩, ⟨some 23, .indexAddr 22 (.tmp 21) (.tmp 22), 0, none, true⟩, ⟨some 24, .fieldAddr 24 (.tmp 23) 2, 0, none, true⟩, ⟨some 25, .load 3 (.tmp 24), 3, none, true⟩, ⟨some 26, .move (.tmp 1), 3, none, true⟩, ⟨some 27, .binOp .neq 3 (.tmp 25) (.tmp 26) 3, 4, none, true⟩, ⟨some 28, .move (.tmp 27), 4, none, true⟩, ⟨some 29, .move (.tmp 0), 22, some (some 28), false⟩, ⟨some 30, .move (.tmp 8), 3, some (some 28), false⟩, ⟨some 31, .indexAddr 22 (.tmp 29) (.tmp 30), 0, some (some 28), false⟩, ⟨some 32, .fieldAddr 24 (.tmp 31) 3, 0, some (some 28), false⟩, ⟨some 33, .load 3 (.tmp 32), 3, some (some 28), false⟩, ⟨some 34, .move (.tmp 2), 3, some (some 28), false⟩, ⟨some 35, .binOp .neq 3 (.tmp 33) (.tmp 34) 3, 4, some (some 28), false⟩, ⟨some 36, .pick (.tmp 28) (.const (.bool true)) (.tmp 35), 4, none, true⟩])
  (.cond (.tmp 36) (.exit 1) .skip))
  (.seq (.region [⟨some 9, .assign (.const (.int .i64 0)), 3, none, true⟩])
  (.seq (.block 2 (.loop [true, true, true, false, false, false, false, true, true, true, false, false, false, false, false, false, false, false, false, false, false, false, false, false, false, false, false, false, false, false, false, false, false, false, false, false, false, false, false, false, false, false, false, false, false, false, false, false, false, false, false, false, false, false, false, false, false, false, false, false, false, false, false, false, false, false, false, false, false, false, false, false] (.seq (.seq (.draw (drawOf T.c35 9) [0, 1, 2, 3, 4, 5, 6, 7, 8, 9, 10, 11, 12, 13, 14] [[], [], [1], [0, 1, 2], [0, 1, 2, 3], [0, 1, 2, 3, 4], [0, 1, 2, 3, 4], [0, 1, 2, 3, 4, 5, 6], [0, 1, 2, 3, 4, 5, 6, 7], [0, 1, 2, 3, 4], [0, 1, 2, 3, 4], [0, 1, 2, 3, 4, 9, 10], [0, 1, 2, 3, 4, 9, 10, 11], [0, 1, 2, 3, 4, 5, 6, 7, 8, 9, 10, 11, 12], [0, 1, 2, 3, 4, 5, 6, 7, 8, 9, 10, 11, 12, 13]])
  (.cond (.tmp 51) .skip (.exit 2)))
  (.block 3 (.region [⟨some 52, .move (.tmp 9), 3, none, true⟩, ⟨some 53, .binOp .add 3 (.tmp 52) (.const (.int .i64 1)) 3, 3, none, true⟩, ⟨some 9, .assign (.tmp 53), 3, none, true⟩])))))
  (.seq (.region [⟨some 10, .assign (.const (.slice none 0 0)), 22, none, true⟩])
  (.seq (.region [⟨some 54, .move (.tmp 10), 22, none, true⟩, ⟨some 55, .move (.tmp 7), 22, none, true⟩, ⟨some 56, .move (.tmp 9), 3, none, true⟩, ⟨some 57, .slice 22 (.tmp 55) none (some (.tmp 56)) none, 22, none, true⟩, ⟨some 58, .call (⟨.builtin .append, #[.tmp 54, .tmp 57], #[22, 22]⟩), 22, none, true⟩, ⟨some 10, .assign (.tmp 58), 22, none, true⟩])
  (.seq (.region [⟨some 59, .move (.tmp 10), 22, none, true⟩, ⟨some 60, .move (.tmp 0), 22, none, true⟩, ⟨some 61, .move (.tmp 8), 3, none, true⟩, ⟨some 62, .indexAddr 22 (.tmp 60) (.tmp 61), 0, none, true⟩, ⟨some 63, .load 24 (.tmp 62), 24, none, true⟩, ⟨some 64, .buildSlice 22 1 #[(0, .tmp 63)], 22, none, true⟩, ⟨some 65, .call (⟨.builtin .append, #[.tmp 59, .tmp 64], #[22, 22]⟩), 22, none, true⟩, ⟨some 10, .assign (.tmp 65), 22, none, true⟩])
  (.region [⟨some 66, .move (.tmp 10), 22, none, true⟩, ⟨some 67, .move (.tmp 7), 22, none, true⟩, ⟨some 68, .move (.tmp 9), 3, none, true⟩, ⟨some 69, .slice 22 (.tmp 67) (some (.tmp 68)) none none, 22, none, true⟩, ⟨some 70, .call (⟨.builtin .append, #[.tmp 66, .tmp 69], #[22, 22]⟩), 22, none, true⟩, ⟨some 7, .assign (.tmp 70), 22, none, true⟩]))))))))
  (.region [⟨some 19, .move (.tmp 8), 3, none, true⟩, ⟨some 20, .binOp .add 3 (.tmp 19) (.const (.int .i64 1)) 3, 3, none, true⟩, ⟨some 8, .assign (.tmp 20), 3, none, true⟩]))))))
  (.seq (.region [⟨some 71, .move (.tmp 7), 22, none, true⟩, ⟨some 6, .assign (.tmp 71), 22, none, true⟩])
  .ret))))
noncomputable def f35 : AFn := ⟨72, [.tmp 6], b35⟩
/-- novation/queue.better -/
noncomputable def b36 : AC :=
  .seq (.region [⟨some 2, .box 24 (.tmp 0), 0, none, true⟩, ⟨some 3, .box 24 (.tmp 1), 0, none, true⟩, ⟨some 4, .assign (.const (.bool false)), 4, none, true⟩])
  (.seq (.seq (.region [⟨some 5, .fieldAddr 24 (.tmp 2) 3, 0, none, true⟩, ⟨some 6, .load 3 (.tmp 5), 3, none, true⟩, ⟨some 7, .binOp .eql 3 (.tmp 6) (.const (.int .i64 1)) 3, 4, none, true⟩])
  (.cond (.tmp 7) (.seq (.region [⟨some 8, .fieldAddr 24 (.tmp 2) 5, 0, none, true⟩, ⟨some 9, .load 2 (.tmp 8), 2, none, true⟩, ⟨some 10, .fieldAddr 24 (.tmp 3) 5, 0, none, true⟩, ⟨some 11, .load 2 (.tmp 10), 2, none, true⟩, ⟨some 12, .binOp .gtr 2 (.tmp 9) (.tmp 11) 2, 4, none, true⟩, ⟨some 4, .assign (.tmp 12), 4, none, true⟩])
  .ret) .skip))
  (.seq (.region [⟨some 13, .fieldAddr 24 (.tmp 2) 5, 0, none, true⟩, ⟨some 14, .load 2 (.tmp 13), 2, none, true⟩, ⟨some 15, .fieldAddr 24 (.tmp 3) 5, 0, none, true⟩, ⟨some 16, .load 2 (.tmp 15), 2, none, true⟩, ⟨some 17, .binOp .lss 2 (.tmp 14) (.tmp 16) 2, 4, none, true⟩, ⟨some 4, .assign (.tmp 17), 4, none, true⟩])
  .ret))
noncomputable def f36 : AFn := ⟨18, [.tmp 4], b36⟩
/-- slices.Insert[[]novation/api.Order,novation/api.Order] -/
noncomputable def b37 : AC :=
  .seq (.region [⟨some 6, .assign (.const (.slice none 0 0)), 22, none, true⟩])
  (.seq (.region [⟨some 10, .move (.tmp 0), 22, none, true⟩, ⟨some 11, .move (.tmp 1), 3, none, true⟩, ⟨some 12, .slice 22 (.tmp 10) (some (.tmp 11)) none none, 22, none, true⟩])
  (.seq (.region [⟨some 13, .move (.tmp 2), 22, none, true⟩, ⟨some 14, .call (⟨.builtin .len, #[.tmp 13], #[22]⟩), 3, none, true⟩, ⟨some 7, .assign (.tmp 14), 3, none, true⟩])
  (.seq (.seq (.region [⟨some 15, .move (.tmp 7), 3, none, true⟩, ⟨some 16, .binOp .eql 3 (.tmp 15) (.const (.int .i64 0)) 3, 4, none, true⟩])
  (.cond (.tmp 16) (.seq (.region [⟨some 17, .move (.tmp 0), 22, none, true⟩, ⟨some 6, .assign (.tmp 17), 22, none, true⟩])
  .ret) .skip))
  (.seq (.region [⟨some 18, .move (.tmp 0), 22, none, true⟩, ⟨some 19, .call (⟨.builtin .len, #[.tmp 18], #[22]⟩), 3, none, true⟩, ⟨some 8, .assign (.tmp 19), 3, none, true⟩])
  (.seq (.seq (.region [⟨some 20, .move (.tmp 1), 3, none, true⟩, ⟨some 21, .move (.tmp 8), 3, none, true⟩, ⟨some 22, .binOp .eql 3 (.tmp 20) (.tmp 21) 3, 4, none, true⟩])
  (.cond (.tmp 22) (.seq (.region [⟨some 23, .move (.tmp 0), 22, none, true⟩, ⟨some 24, .move (.tmp 2), 22, none, true⟩, ⟨some 25, .call (⟨.builtin .append, #[.tmp 23, .tmp 24], #[22, 22]⟩), 22, none, true⟩, ⟨some 6, .assign (.tmp 25), 22, none, true⟩])
  .ret) .skip))
  (.seq (.seq (.region [⟨some 26, .move (.tmp 8), 3, none, true⟩, ⟨some 27, .move (.tmp 7), 3, none, true⟩, ⟨some 28, .binOp .add 3 (.tmp 26) (.tmp 27) 3, 3, none, true⟩, ⟨some 29, .move (.tmp 0), 22, none, true⟩, ⟨some 30, .call (⟨.builtin .cap, #[.tmp 29], #[22]⟩), 3, none, true⟩, ⟨some 31, .binOp .gtr 3 (.tmp 28) (.tmp 30) 3, 4, none, true⟩])
  (.cond (.tmp 31) (.seq (.region [⟨some 32, .move (.tmp 0), 22, none, true⟩, ⟨some 33, .move (.tmp 1), 3, none, true⟩, ⟨some 34, .slice 22 (.tmp 32) none (some (.tmp 33)) none, 22, none, true⟩, ⟨some 35, .move (.tmp 8), 3, none, true⟩, ⟨some 36, .move (.tmp 7), 3, none, true⟩, ⟨some 37, .binOp .add 3 (.tmp 35) (.tmp 36) 3, 3, none, true⟩, ⟨some 38, .move (.tmp 1), 3, none, true⟩, ⟨some 39, .binOp .sub 3 (.tmp 37) (.tmp 38) 3, 3, none, true⟩, ⟨some 40, .call (⟨.builtin .append, #[.tmp 34, .tmp 39], #[22, 3]⟩), 22, none, true⟩, ⟨some 9, .assign (.tmp 40), 22, none, true⟩])
  (.seq (.region [⟨some 41, .move (.tmp 9), 22, none, true⟩, ⟨some 42, .move (.tmp 1), 3, none, true⟩, ⟨some 43, .slice 22 (.tmp 41) (some (.tmp 42)) none none, 22, none, true⟩, ⟨some 44, .move (.tmp 2), 22, none, true⟩, ⟨some 45, .call (⟨.builtin .copy, #[.tmp 43, .tmp 44], #[22, 22]⟩), 3, none, true⟩])
  (.seq (.draw (drawOf T.c37 11) [0, 1, 2, 3, 4, 5, 6, 7, 8] [[], [], [], [1, 2], [0, 1, 2, 3], [], [], [5, 6], [0, 1, 2, 3, 4, 5, 6, 7]])
  (.seq (.region [⟨some 55, .move (.tmp 9), 22, none, true⟩, ⟨some 6, .assign (.tmp 55), 22, none, true⟩])
  .ret)))) .skip))
  (.seq (.region [⟨some 56, .move (.tmp 0), 22, none, true⟩, ⟨some 57, .move (.tmp 8), 3, none, true⟩, ⟨some 58, .move (.tmp 7), 3, none, true⟩, ⟨some 59, .binOp .add 3 (.tmp 57) (.tmp 58) 3, 3, none, true⟩, ⟨some 60, .slice 22 (.tmp 56) none (some (.tmp 59)) none, 22, none, true⟩, ⟨some 0, .assign (.tmp 60), 22, none, true⟩])
  (.seq (.seq (.region [⟨some 61, .move (.tmp 2), 22, none, true⟩, ⟨some 62, .move (.tmp 0), 22, none, true⟩, ⟨some 63, .move (.tmp 1), 3, none, true⟩, ⟨some 64, .move (.tmp 7), 3, none, true⟩, ⟨some 65, .binOp .add 3 (.tmp 63) (.tmp 64) 3, 3, none, true⟩, ⟨some 66, .slice 22 (.tmp 62) (some (.tmp 65)) none none, 22, none, true⟩, ⟨some 67, .call (⟨.value (.func 42), #[.tmp 61, .tmp 66], #[22, 22]⟩), 4, none, true⟩, ⟨some 68, .unOp .not 4 (.tmp 67), 4, none, true⟩])
  (.cond (.tmp 68) (.seq (.draw (drawOf T.c37 15) [0, 1, 2, 3, 4, 5, 6, 7, 8] [[], [], [], [1, 2], [0, 1, 2, 3], [], [], [5, 6], [0, 1, 2, 3, 4, 5, 6, 7]])
  (.seq (.region [⟨some 78, .move (.tmp 0), 22, none, true⟩, ⟨some 79, .move (.tmp 1), 3, none, true⟩, ⟨some 80, .slice 22 (.tmp 78) (some (.tmp 79)) none none, 22, none, true⟩, ⟨some 81, .move (.tmp 2), 22, none, true⟩, ⟨some 82, .call (⟨.builtin .copy, #[.tmp 80, .tmp 81], #[22, 22]⟩), 3, none, true⟩])
  (.seq (.region [⟨some 83, .move (.tmp 0), 22, none, true⟩, ⟨some 6, .assign (.tmp 83), 22, none, true⟩])
  .ret))) .skip))
  (.seq (.region [⟨some 84, .move (.tmp 0), 22, none, true⟩, ⟨some 85, .move (.tmp 8), 3, none, true⟩, ⟨some 86, .slice 22 (.tmp 84) (some (.tmp 85)) none none, 22, none, true⟩, ⟨some 87, .move (.tmp 2), 22, none, true⟩, ⟨some 88, .call (⟨.builtin .copy, #[.tmp 86, .tmp 87], #[22, 22]⟩), 3, none, true⟩])
  (.seq (.region [⟨some 89, .move (.tmp 0), 22, none, true⟩, ⟨some 90, .move (.tmp 1), 3, none, true⟩, ⟨some 91, .slice 22 (.tmp 89) (some (.tmp 90)) none none, 22, none, true⟩, ⟨some 92, .move (.tmp 7), 3, none, true⟩, ⟨some 93, .call (⟨.value (.func 43), #[.tmp 91, .tmp 92], #[22, 3]⟩), 0, none, true⟩])
  (.seq (.region [⟨some 94, .move (.tmp 0), 22, none, true⟩, ⟨some 6, .assign (.tmp 94), 22, none, true⟩])
  .ret)))))))))))
noncomputable def f37 : AFn := ⟨95, [.tmp 6], b37⟩
/-- novation/queue.Walk$1 -/
noncomputable def b38 : AC :=
  .seq (.region [⟨some 5, .load 22 (.tmp 1), 22, none, true⟩, ⟨some 6, .call (⟨.builtin .len, #[.tmp 5], #[22]⟩), 3, none, true⟩, ⟨some 7, .move (.const (.int .i64 0)), 3, none, true⟩])
  (.block 0 (.loop [true, false, false, false, false, true, true, true, false, false, false, false, false, false, false, false] (.seq (.region [⟨some 8, .binOp .lss 3 (.tmp 7) (.tmp 6) 3, 0, none, true⟩])
  (.seq (.cond (.tmp 8) .skip (.exit 0))
  (.seq (.block 1 (.seq (.region [⟨some 9, .indexAddr 22 (.tmp 5) (.tmp 7), 0, none, true⟩, ⟨some 10, .load 24 (.tmp 9), 24, none, true⟩, ⟨some 4, .alloc 24, 0, none, true⟩, ⟨none, .store 24 (.tmp 4) (.tmp 10), 0, none, true⟩])
  (.seq (.region [⟨some 11, .move (.tmp 0), 50, none, true⟩, ⟨some 12, .load 24 (.tmp 4), 24, none, true⟩, ⟨some 13, .call (⟨.value (.tmp 11), #[.tmp 12], #[24]⟩), 4, none, true⟩, ⟨some 14, .unOp .not 4 (.tmp 13), 4, none, true⟩])
  (.cond (.tmp 14) .ret .skip))))
  (.region [⟨some 15, .binOp .add 3 (.tmp 7) (.const (.int .i64 1)) 3, 3, none, true⟩, ⟨some 7, .move (.tmp 15), 3, none, true⟩]))))))
noncomputable def f38 : AFn := ⟨16, [], b38⟩
/-- slices.IndexFunc[[]novation/api.Order,novation/api.Order] -/
noncomputable def b39 : AC :=
  .seq (.region [⟨some 4, .assign (.const (.int .i64 0)), 3, none, true⟩])
  (.seq (.seq (.region [⟨some 6, .move (.tmp 0), 22, none, true⟩, ⟨some 7, .call (⟨.builtin .len, #[.tmp 6], #[22]⟩), 3, none, true⟩, ⟨some 8, .move (.const (.int .i64 0)), 3, none, true⟩])
  (.block 0 (.loop [true, true, false, false, false, false, false, true, true, false, false, false, false, false, false, false, false, false, false] (.seq (.region [⟨some 9, .binOp .lss 3 (.tmp 8) (.tmp 7) 3, 0, none, true⟩])
  (.seq (.cond (.tmp 9) .skip (.exit 0))
  (.seq (.block 1 (.seq (.region [⟨some 10, .move (.tmp 8), 3, none, true⟩, ⟨some 5, .assign (.tmp 10), 3, none, true⟩])
  (.seq (.region [⟨some 11, .move (.tmp 1), 50, none, true⟩, ⟨some 12, .move (.tmp 0), 22, none, true⟩, ⟨some 13, .move (.tmp 5), 3, none, true⟩, ⟨some 14, .indexAddr 22 (.tmp 12) (.tmp 13), 0, none, true⟩, ⟨some 15, .load 24 (.tmp 14), 24, none, true⟩, ⟨some 16, .call (⟨.value (.tmp 11), #[.tmp 15], #[24]⟩), 4, none, true⟩])
  (.cond (.tmp 16) (.seq (.region [⟨some 17, .move (.tmp 5), 3, none, true⟩, ⟨some 4, .assign (.tmp 17), 3, none, true⟩])
  .ret) .skip))))
  (.region [⟨some 18, .binOp .add 3 (.tmp 8) (.const (.int .i64 1)) 3, 3, none, true⟩, ⟨some 8, .move (.tmp 18), 3, none, true⟩])))))))
  (.seq (.region [⟨some 4, .assign (.const (.int .i64 (-1))), 3, none, true⟩])
  .ret))
noncomputable def f39 : AFn := ⟨19, [.tmp 4], b39⟩
/-- novation/novationref15.price -/
noncomputable def b40 : AC :=
  .seq (.region [⟨some 2, .assign (.const (.bool false)), 4, none, true⟩])
  (.seq (.region [⟨some 3, .move (.tmp 0), 2, none, true⟩, ⟨some 4, .binOp .geq 2 (.tmp 3) (.const (.int .i64 1)) 2, 4, none, true⟩, ⟨some 5, .move (.tmp 4), 4, none, true⟩, ⟨some 6, .move (.tmp 0), 2, some (some 5), true⟩, ⟨some 7, .binOp .leq 2 (.tmp 6) (.const (.int .i64 1000000000000)) 2, 4, some (some 5), true⟩, ⟨some 8, .pick (.tmp 5) (.tmp 7) (.const (.bool false)), 4, none, true⟩, ⟨some 2, .assign (.tmp 8), 4, none, true⟩])
  .ret)
noncomputable def f40 : AFn := ⟨9, [.tmp 2], b40⟩
/-- novation/novationref15.ahead -/
noncomputable def b41 : AC :=
  .seq (.region [⟨some 2, .box 24 (.tmp 0), 0, none, true⟩, ⟨some 3, .box 24 (.tmp 1), 0, none, true⟩, ⟨some 4, .assign (.const (.bool false)), 4, none, true⟩])
  (.seq (.seq (.region [⟨some 5, .fieldAddr 24 (.tmp 2) 5, 0, none, true⟩, ⟨some 6, .load 2 (.tmp 5), 2, none, true⟩, ⟨some 7, .fieldAddr 24 (.tmp 3) 5, 0, none, true⟩, ⟨some 8, .load 2 (.tmp 7), 2, none, true⟩, ⟨some 9, .binOp .neq 2 (.tmp 6) (.tmp 8) 2, 4, none, true⟩])
  (.cond (.tmp 9) (.seq (.region [⟨some 10, .fieldAddr 24 (.tmp 2) 5, 0, none, true⟩, ⟨some 11, .load 2 (.tmp 10), 2, none, true⟩, ⟨some 12, .fieldAddr 24 (.tmp 3) 5, 0, none, true⟩, ⟨some 13, .load 2 (.tmp 12), 2, none, true⟩, ⟨some 14, .binOp .gtr 2 (.tmp 11) (.tmp 13) 2, 4, none, true⟩, ⟨some 15, .fieldAddr 24 (.tmp 2) 3, 0, none, true⟩, ⟨some 16, .load 3 (.tmp 15), 3, none, true⟩, ⟨some 17, .binOp .eql 3 (.tmp 16) (.const (.int .i64 1)) 3, 4, none, true⟩, ⟨some 18, .binOp .eql 4 (.tmp 14) (.tmp 17) 4, 4, none, true⟩, ⟨some 4, .assign (.tmp 18), 4, none, true⟩])
  .ret) .skip))
  (.seq (.region [⟨some 19, .fieldAddr 24 (.tmp 2) 0, 0, none, true⟩, ⟨some 20, .load 2 (.tmp 19), 2, none, true⟩, ⟨some 21, .fieldAddr 24 (.tmp 3) 0, 0, none, true⟩, ⟨some 22, .load 2 (.tmp 21), 2, none, true⟩, ⟨some 23, .binOp .lss 2 (.tmp 20) (.tmp 22) 2, 4, none, true⟩, ⟨some 4, .assign (.tmp 23), 4, none, true⟩])
  .ret))
noncomputable def f41 : AFn := ⟨24, [.tmp 4], b41⟩
/-- slices.rotateRight[novation/api.Order] -/
noncomputable def b43 : AC :=
  .region [⟨some 4, .move (.tmp 0), 22, none, true⟩, ⟨some 5, .move (.tmp 0), 22, none, true⟩, ⟨some 6, .call (⟨.builtin .len, #[.tmp 5], #[22]⟩), 3, none, true⟩, ⟨some 7, .move (.tmp 1), 3, none, true⟩, ⟨some 8, .binOp .sub 3 (.tmp 6) (.tmp 7) 3, 3, none, true⟩, ⟨some 9, .call (⟨.value (.func 44), #[.tmp 4, .tmp 8], #[22, 3]⟩), 0, none, true⟩]
noncomputable def f43 : AFn := ⟨10, [], b43⟩
/-- slices.rotateLeft[novation/api.Order] -/
noncomputable def b44 : AC :=
  .seq (.region [⟨some 4, .move (.tmp 0), 22, none, true⟩, ⟨some 5, .move (.tmp 1), 3, none, true⟩, ⟨some 6, .slice 22 (.tmp 4) none (some (.tmp 5)) none, 22, none, true⟩, ⟨some 7, .call (⟨.value (.func 45), #[.tmp 6], #[22]⟩), 0, none, true⟩])
  (.seq (.region [⟨some 8, .move (.tmp 0), 22, none, true⟩, ⟨some 9, .move (.tmp 1), 3, none, true⟩, ⟨some 10, .slice 22 (.tmp 8) (some (.tmp 9)) none none, 22, none, true⟩, ⟨some 11, .call (⟨.value (.func 45), #[.tmp 10], #[22]⟩), 0, none, true⟩])
  (.region [⟨some 12, .move (.tmp 0), 22, none, true⟩, ⟨some 13, .call (⟨.value (.func 45), #[.tmp 12], #[22]⟩), 0, none, true⟩]))
noncomputable def f44 : AFn := ⟨14, [], b44⟩
/-- slices.Reverse[[]novation/api.Order,novation/api.Order] -/
noncomputable def b45 : AC :=
  .seq (.region [⟨some 4, .move (.tmp 0), 22, none, true⟩, ⟨some 5, .call (⟨.builtin .len, #[.tmp 4], #[22]⟩), 3, none, true⟩, ⟨some 6, .binOp .sub 3 (.tmp 5) (.const (.int .i64 1)) 3, 3, none, true⟩, ⟨some 2, .assign (.const (.int .i64 0)), 3, none, true⟩, ⟨some 3, .assign (.tmp 6), 3, none, true⟩])
  (.block 0 (.loop [true, false, true, true, false, false, false, false, false, false, false, false, false, false, false, false, false, false, false, false, false, false, false, false, false, false, false, false] (.seq (.seq (.region [⟨some 7, .move (.tmp 2), 3, none, true⟩, ⟨some 8, .move (.tmp 3), 3, none, true⟩, ⟨some 9, .binOp .lss 3 (.tmp 7) (.tmp 8) 3, 4, none, true⟩])
  (.cond (.tmp 9) .skip (.exit 0)))
  (.seq (.block 1 (.draw (drawOf T.c45 3) [0, 1, 2, 3, 4, 5, 6, 7, 8, 9, 10, 11, 12, 13, 14, 15] [[], [], [], [], [], [], [4, 5], [4, 5, 6], [], [], [8, 9], [8, 9, 10], [0, 1, 4, 5, 6, 7, 8, 9, 10, 11], [0, 1, 4, 5, 6, 7, 8, 9, 10, 11, 12], [0, 1, 2, 3, 4, 5, 6, 7, 8, 9, 10, 11, 12, 13], [0, 1, 2, 3, 4, 5, 6, 7, 8, 9, 10, 11, 12, 13, 14]]))
  (.region [⟨some 10, .move (.tmp 2), 3, none, true⟩, ⟨some 11, .binOp .add 3 (.tmp 10) (.const (.int .i64 1)) 3, 3, none, true⟩, ⟨some 12, .move (.tmp 3), 3, none, true⟩, ⟨some 13, .binOp .sub 3 (.tmp 12) (.const (.int .i64 1)) 3, 3, none, true⟩, ⟨some 2, .assign (.tmp 11), 3, none, true⟩, ⟨some 3, .assign (.tmp 13), 3, none, true⟩])))))
noncomputable def f45 : AFn := ⟨28, [], b45⟩
def tys : List (Nat × TI) := [(1, t1), (2, t2), (3, t3), (4, t4), (5, t5), (22, t22), (24, t24), (27, t27), (28, t28), (34, t34), (35, t35), (40, t40), (47, t47), (48, t48), (50, t50)]
noncomputable def fns : List (Nat × AFn) := [(3, f3), (4, f4), (5, f5), (6, f6), (7, f7), (8, f8), (9, f9), (10, f10), (11, f11), (12, f12), (13, f13), (14, f14), (15, f15), (16, f16), (17, f17), (18, f18), (19, f19), (20, f20), (21, f21), (22, f22), (23, f23), (24, f24), (25, f25), (26, f26), (27, f27), (28, f28), (29, f29), (30, f30), (31, f31), (32, f32), (33, f33), (34, f34), (35, f35), (36, f36), (37, f37), (38, f38), (39, f39), (40, f40), (41, f41), (43, f43), (44, f44), (45, f45)]
noncomputable def ap0 : AP := { ty := fun t => tys.lookup t, fn := fun f => fns.lookup f, prim := fun _ => none }
def gcs : List Nat := [15, 16, 17, 18, 19, 22, 23, 25, 28, 30, 31, 32, 33, 34, 36, 39, 40, 41]
def insP (f : Nat) : Option (List AV → Nat → AH → Option (AV × AH)) := if f = 37 then some (insX 6) else none
def extP (f : Nat) : Option (List AV → AH → Option (AV × AH)) := if f = 42 then some overlapsX else none
noncomputable def apN : AP := { ap0 with ext := extP, pl := true }
noncomputable def apP : AP := { apN with prim := insP }
noncomputable def ap : AP := { apP with prim := fun f => if f = 8 then some knownG else insP f, gc := fun f => gcs.contains f }
theorem ty1 : ap.ty 1 = some t1 := by kernel_rfl
theorem ty2 : ap.ty 2 = some t2 := by kernel_rfl
theorem ty3 : ap.ty 3 = some t3 := by kernel_rfl
theorem ty4 : ap.ty 4 = some t4 := by kernel_rfl
theorem ty5 : ap.ty 5 = some t5 := by kernel_rfl
theorem ty22 : ap.ty 22 = some t22 := by kernel_rfl
theorem ty24 : ap.ty 24 = some t24 := by kernel_rfl
theorem ty27 : ap.ty 27 = some t27 := by kernel_rfl
theorem ty28 : ap.ty 28 = some t28 := by kernel_rfl
theorem ty34 : ap.ty 34 = some t34 := by kernel_rfl
theorem ty35 : ap.ty 35 = some t35 := by kernel_rfl
theorem ty40 : ap.ty 40 = some t40 := by kernel_rfl
theorem ty47 : ap.ty 47 = some t47 := by kernel_rfl
theorem ty48 : ap.ty 48 = some t48 := by kernel_rfl
theorem ty50 : ap.ty 50 = some t50 := by kernel_rfl
theorem fn3 : ap.fn 3 = some f3 := by kernel_rfl
theorem fn4 : ap.fn 4 = some f4 := by kernel_rfl
theorem fn5 : ap.fn 5 = some f5 := by kernel_rfl
theorem fn6 : ap.fn 6 = some f6 := by kernel_rfl
theorem fn7 : ap.fn 7 = some f7 := by kernel_rfl
theorem fn8 : ap.fn 8 = some f8 := by kernel_rfl
theorem fn9 : ap.fn 9 = some f9 := by kernel_rfl
theorem fn10 : ap.fn 10 = some f10 := by kernel_rfl
theorem fn11 : ap.fn 11 = some f11 := by kernel_rfl
theorem fn12 : ap.fn 12 = some f12 := by kernel_rfl
theorem fn13 : ap.fn 13 = some f13 := by kernel_rfl
theorem fn14 : ap.fn 14 = some f14 := by kernel_rfl
theorem fn15 : ap.fn 15 = some f15 := by kernel_rfl
theorem fn16 : ap.fn 16 = some f16 := by kernel_rfl
theorem fn17 : ap.fn 17 = some f17 := by kernel_rfl
theorem fn18 : ap.fn 18 = some f18 := by kernel_rfl
theorem fn19 : ap.fn 19 = some f19 := by kernel_rfl
theorem fn20 : ap.fn 20 = some f20 := by kernel_rfl
theorem fn21 : ap.fn 21 = some f21 := by kernel_rfl
theorem fn22 : ap.fn 22 = some f22 := by kernel_rfl
theorem fn23 : ap.fn 23 = some f23 := by kernel_rfl
theorem fn24 : ap.fn 24 = some f24 := by kernel_rfl
theorem fn25 : ap.fn 25 = some f25 := by kernel_rfl
theorem fn26 : ap.fn 26 = some f26 := by kernel_rfl
theorem fn27 : ap.fn 27 = some f27 := by kernel_rfl
theorem fn28 : ap.fn 28 = some f28 := by kernel_rfl
theorem fn29 : ap.fn 29 = some f29 := by kernel_rfl
theorem fn30 : ap.fn 30 = some f30 := by kernel_rfl
theorem fn31 : ap.fn 31 = some f31 := by kernel_rfl
theorem fn32 : ap.fn 32 = some f32 := by kernel_rfl
theorem fn33 : ap.fn 33 = some f33 := by kernel_rfl
theorem fn34 : ap.fn 34 = some f34 := by kernel_rfl
theorem fn35 : ap.fn 35 = some f35 := by kernel_rfl
theorem fn36 : ap.fn 36 = some f36 := by kernel_rfl
theorem fn37 : ap.fn 37 = some f37 := by kernel_rfl
theorem fn38 : ap.fn 38 = some f38 := by kernel_rfl
theorem fn39 : ap.fn 39 = some f39 := by kernel_rfl
theorem fn40 : ap.fn 40 = some f40 := by kernel_rfl
theorem fn41 : ap.fn 41 = some f41 := by kernel_rfl
theorem fn43 : ap.fn 43 = some f43 := by kernel_rfl
theorem fn44 : ap.fn 44 = some f44 := by kernel_rfl
theorem fn45 : ap.fn 45 = some f45 := by kernel_rfl
theorem types : ∀ x ∈ tys, tiOf Try.prog x.1 = some x.2 := by
  simp only [tys, List.forall_mem_cons]
  exact ⟨by kernel_rfl, by kernel_rfl, by kernel_rfl, by kernel_rfl, by kernel_rfl, by kernel_rfl, by kernel_rfl, by kernel_rfl, by kernel_rfl, by kernel_rfl, by kernel_rfl, by kernel_rfl, by kernel_rfl, by kernel_rfl, by kernel_rfl, fun _ h => by cases h⟩
theorem funcs : ∀ x ∈ fns, FnOk Try.prog x.1 x.2 := by
  simp only [fns, List.forall_mem_cons]
  exact ⟨fnOk_of Try.func3 rfl (by decide +kernel) (by kernel_rfl) (by kernel_rfl) (by kernel_rfl), fnOk_of Try.func4 rfl (by decide +kernel) (by kernel_rfl) (by kernel_rfl) (by kernel_rfl), fnOk_of Try.func5 rfl (by decide +kernel) (by kernel_rfl) (by kernel_rfl) (by kernel_rfl), fnOk_of Try.func6 rfl (by decide +kernel) (by kernel_rfl) (by kernel_rfl) (by kernel_rfl), fnOk_of Try.func7 rfl (by decide +kernel) (by kernel_rfl) (by kernel_rfl) (by kernel_rfl), fnOk_of Try.func8 rfl (by decide +kernel) (by kernel_rfl) (by kernel_rfl) (by kernel_rfl), fnOk_of Try.func9 rfl (by decide +kernel) (by kernel_rfl) (by kernel_rfl) (by kernel_rfl), fnOk_of Try.func10 rfl (by decide +kernel) (by kernel_rfl) (by kernel_rfl) (by kernel_rfl), fnOk_of Try.func11 rfl (by decide +kernel) (by kernel_rfl) (by kernel_rfl) (by kernel_rfl), fnOk_of Try.func12 rfl (by decide +kernel) (by kernel_rfl) (by kernel_rfl) (by kernel_rfl), fnOk_of Try.func13 rfl (by decide +kernel) (by kernel_rfl) (by kernel_rfl) (by kernel_rfl), fnOk_of Try.func14 rfl (by decide +kernel) (by kernel_rfl) (by kernel_rfl) (by kernel_rfl), fnOk_of Try.func15 rfl (by decide +kernel) (by kernel_rfl) (by kernel_rfl) (by kernel_rfl), fnOk_of Try.func16 rfl (by decide +kernel) (by kernel_rfl) (by kernel_rfl) (by kernel_rfl), fnOk_of Try.func17 rfl (by decide +kernel) (by kernel_rfl) (by kernel_rfl) (by kernel_rfl), fnOk_of Try.func18 rfl (by decide +kernel) (by kernel_rfl) (by kernel_rfl) (by kernel_rfl), fnOk_of Try.func19 rfl (by decide +kernel) (by kernel_rfl) (by kernel_rfl) (by kernel_rfl), fnOk_of Try.func20 rfl (by decide +kernel) (by kernel_rfl) (by kernel_rfl) (by kernel_rfl), fnOk_of Try.func21 rfl (by decide +kernel) (by kernel_rfl) (by kernel_rfl) (by kernel_rfl), fnOk_of Try.func22 rfl (by decide +kernel) (by kernel_rfl) (by kernel_rfl) (by kernel_rfl), fnOk_of Try.func23 rfl (by decide +kernel) (by kernel_rfl) (by kernel_rfl) (by kernel_rfl), fnOk_of Try.func24 rfl (by decide +kernel) (by kernel_rfl) (by kernel_rfl) (by kernel_rfl), fnOk_of Try.func25 rfl (by decide +kernel) (by kernel_rfl) (by kernel_rfl) (by kernel_rfl), fnOk_of Try.func26 rfl (by decide +kernel) (by kernel_rfl) (by kernel_rfl) (by kernel_rfl), fnOk_of Try.func27 rfl (by decide +kernel) (by kernel_rfl) (by kernel_rfl) (by kernel_rfl), fnOk_of Try.func28 rfl (by decide +kernel) (by kernel_rfl) (by kernel_rfl) (by kernel_rfl), fnOk_of Try.func29 rfl (by decide +kernel) (by kernel_rfl) (by kernel_rfl) (by kernel_rfl), fnOk_of Try.func30 rfl (by decide +kernel) (by kernel_rfl) (by kernel_rfl) (by kernel_rfl), fnOk_of Try.func31 rfl (by decide +kernel) (by kernel_rfl) (by kernel_rfl) (by kernel_rfl), fnOk_of Try.func32 rfl (by decide +kernel) (by kernel_rfl) (by kernel_rfl) (by kernel_rfl), fnOk_of Try.func33 rfl (by decide +kernel) (by kernel_rfl) (by kernel_rfl) (by kernel_rfl), fnOk_of Try.func34 rfl (by decide +kernel) (by kernel_rfl) (by kernel_rfl) (by kernel_rfl), fnOk_of Try.func35 rfl (by decide +kernel) (by kernel_rfl) (by kernel_rfl) (by kernel_rfl), fnOk_of Try.func36 rfl (by decide +kernel) (by kernel_rfl) (by kernel_rfl) (by kernel_rfl), fnOk_of Try.func37 rfl (by decide +kernel) (by kernel_rfl) (by kernel_rfl) (by kernel_rfl), fnOk_of Try.func38 rfl (by decide +kernel) (by kernel_rfl) (by kernel_rfl) (by kernel_rfl), fnOk_of Try.func39 rfl (by decide +kernel) (by kernel_rfl) (by kernel_rfl) (by kernel_rfl), fnOk_of Try.func40 rfl (by decide +kernel) (by kernel_rfl) (by kernel_rfl) (by kernel_rfl), fnOk_of Try.func41 rfl (by decide +kernel) (by kernel_rfl) (by kernel_rfl) (by kernel_rfl), fnOk_of Try.func43 rfl (by decide +kernel) (by kernel_rfl) (by kernel_rfl) (by kernel_rfl), fnOk_of Try.func44 rfl (by decide +kernel) (by kernel_rfl) (by kernel_rfl) (by kernel_rfl), fnOk_of Try.func45 rfl (by decide +kernel) (by kernel_rfl) (by kernel_rfl) (by kernel_rfl), fun _ h => by cases h⟩
theorem agree0 : Agree Try.prog ap0 := agree_of (by kernel_rfl) types funcs
@[simp] theorem ap_pl : ap.pl = true := rfl
@[simp] theorem ap_ext {f : Nat} : ap.ext f = if f = 42 then some overlapsX else none := rfl
attribute [simp] ty1 t1 ty2 t2 ty3 t3 ty4 t4 ty5 t5 ty22 t22 ty24 t24 ty27 t27 ty28 t28 ty34 t34 ty35 t35 ty40 t40 ty47 t47 ty48 t48 ty50 t50
end Go.Proofs.Ytjpmddjibeecbaa.T
end
section
/-! The drawn regions, one operation behind the other. Written by wip/ab/abgen.py (an own program). -/
set_option linter.unusedVariables false
set_option maxRecDepth 100000
namespace Go.Proofs.Ytjpmddjibeecbaa.T
open Go Go.Ab
def d4_9 : List DP := [⟨0, ⟨some 39, .move (.tmp 4), 22, none, true⟩, .q, []⟩,
  ⟨1, ⟨some 40, .load 24 (.tmp 5), 24, none, true⟩, .h, []⟩,
  ⟨2, ⟨some 41, .load 24 (.tmp 6), 24, none, true⟩, .h, []⟩,
  ⟨3, ⟨some 42, .call (⟨.value (.func 9), #[.tmp 39, .tmp 40, .tmp 41], #[22, 24, 24]⟩), 4, none, true⟩, .e, []⟩,
  ⟨4, ⟨some 43, .move (.tmp 42), 4, none, true⟩, .q, []⟩,
  ⟨5, ⟨some 44, .move (.tmp 3), 28, some (some 43), true⟩, .q, []⟩,
  ⟨7, ⟨some 46, .load 24 (.tmp 5), 24, some (some 43), true⟩, .h, [2]⟩,
  ⟨8, ⟨some 47, .load 24 (.tmp 6), 24, some (some 43), true⟩, .h, [2]⟩,
  ⟨6, ⟨some 45, .call (⟨.value (.func 13), #[.tmp 44], #[28]⟩), 22, some (some 43), true⟩, .e, []⟩,
  ⟨9, ⟨some 48, .call (⟨.value (.func 9), #[.tmp 45, .tmp 46, .tmp 47], #[22, 24, 24]⟩), 4, some (some 43), true⟩, .e, []⟩,
  ⟨10, ⟨some 49, .pick (.tmp 43) (.tmp 48) (.const (.bool false)), 4, none, true⟩, .q, []⟩,
  ⟨11, ⟨some 2, .assign (.tmp 49), 4, none, true⟩, .q, []⟩]
theorem dc4_9 : drawC ap (drawOf T.c4 9).toList [0, 1, 2, 3, 4, 5, 7, 8, 6, 9, 10, 11] [[], [], [], [0, 1, 2], [0, 1, 2, 3], [0, 1, 2, 3, 4], [0, 1, 2, 3, 4, 5], [0, 1, 2, 3, 4], [0, 1, 2, 3, 4], [0, 1, 2, 3, 4, 5, 6, 7, 8], [0, 1, 2, 3, 4, 5, 6, 7, 8, 9], [0, 1, 2, 3, 4, 5, 6, 7, 8, 9, 10]] = some d4_9 := by kernel_rfl
def d5_14 : List DP := [⟨0, ⟨some 70, .move (.tmp 7), 34, none, true⟩, .q, []⟩,
  ⟨1, ⟨some 71, .move (.tmp 11), 3, none, true⟩, .q, []⟩,
  ⟨2, ⟨some 72, .indexAddr 34 (.tmp 70) (.tmp 71), 0, none, true⟩, .q, []⟩,
  ⟨3, ⟨some 73, .fieldAddr 40 (.tmp 72) 3, 0, none, true⟩, .q, []⟩,
  ⟨4, ⟨some 74, .load 2 (.tmp 73), 2, none, true⟩, .h, []⟩,
  ⟨5, ⟨some 75, .binOp .lss 2 (.tmp 74) (.const (.int .i64 1)) 2, 4, none, true⟩, .q, []⟩,
  ⟨6, ⟨some 76, .move (.tmp 75), 4, none, true⟩, .q, []⟩,
  ⟨7, ⟨some 77, .move (.tmp 7), 34, some (some 76), false⟩, .q, []⟩,
  ⟨8, ⟨some 78, .move (.tmp 11), 3, some (some 76), false⟩, .q, []⟩,
  ⟨9, ⟨some 79, .indexAddr 34 (.tmp 77) (.tmp 78), 0, some (some 76), false⟩, .q, []⟩,
  ⟨10, ⟨some 80, .fieldAddr 40 (.tmp 79) 2, 0, some (some 76), false⟩, .q, []⟩,
  ⟨11, ⟨some 81, .load 3 (.tmp 80), 3, some (some 76), false⟩, .h, []⟩,
  ⟨12, ⟨some 82, .fieldAddr 24 (.tmp 5) 2, 0, some (some 76), false⟩, .q, []⟩,
  ⟨13, ⟨some 83, .load 3 (.tmp 82), 3, some (some 76), false⟩, .h, []⟩,
  ⟨14, ⟨some 84, .binOp .neq 3 (.tmp 81) (.tmp 83) 3, 4, some (some 76), false⟩, .q, []⟩,
  ⟨15, ⟨some 85, .pick (.tmp 76) (.const (.bool true)) (.tmp 84), 4, none, true⟩, .q, []⟩,
  ⟨16, ⟨some 86, .move (.tmp 85), 4, none, true⟩, .q, []⟩,
  ⟨17, ⟨some 87, .move (.tmp 7), 34, some (some 86), false⟩, .q, []⟩,
  ⟨18, ⟨some 88, .move (.tmp 11), 3, some (some 86), false⟩, .q, []⟩,
  ⟨19, ⟨some 89, .indexAddr 34 (.tmp 87) (.tmp 88), 0, some (some 86), false⟩, .q, []⟩,
  ⟨20, ⟨some 90, .fieldAddr 40 (.tmp 89) 0, 0, some (some 86), false⟩, .q, []⟩,
  ⟨21, ⟨some 91, .load 3 (.tmp 90), 3, some (some 86), false⟩, .h, []⟩,
  ⟨22, ⟨some 92, .move (.tmp 7), 34, some (some 86), false⟩, .q, []⟩,
  ⟨23, ⟨some 93, .move (.tmp 11), 3, some (some 86), false⟩, .q, []⟩,
  ⟨24, ⟨some 94, .indexAddr 34 (.tmp 92) (.tmp 93), 0, some (some 86), false⟩, .q, []⟩,
  ⟨25, ⟨some 95, .fieldAddr 40 (.tmp 94) 1, 0, some (some 86), false⟩, .q, []⟩,
  ⟨26, ⟨some 96, .load 3 (.tmp 95), 3, some (some 86), false⟩, .h, []⟩,
  ⟨27, ⟨some 97, .binOp .eql 3 (.tmp 91) (.tmp 96) 3, 4, some (some 86), false⟩, .q, []⟩,
  ⟨28, ⟨some 98, .pick (.tmp 86) (.const (.bool true)) (.tmp 97), 4, none, true⟩, .q, []⟩,
  ⟨29, ⟨some 99, .move (.tmp 98), 4, none, true⟩, .q, []⟩,
  ⟨30, ⟨some 100, .fieldAddr 24 (.tmp 5) 3, 0, some (some 99), false⟩, .q, []⟩,
  ⟨31, ⟨some 101, .load 3 (.tmp 100), 3, some (some 99), false⟩, .h, []⟩,
  ⟨32, ⟨some 102, .binOp .eql 3 (.tmp 101) (.const (.int .i64 1)) 3, 4, some (some 99), false⟩, .q, []⟩,
  ⟨33, ⟨some 103, .move (.tmp 102), 4, some (some 99), false⟩, .q, []⟩,
  ⟨34, ⟨some 104, .move (.tmp 7), 34, some (some 103), true⟩, .q, []⟩,
  ⟨35, ⟨some 105, .move (.tmp 11), 3, some (some 103), true⟩, .q, []⟩,
  ⟨36, ⟨some 106, .indexAddr 34 (.tmp 104) (.tmp 105), 0, some (some 103), true⟩, .q, []⟩,
  ⟨37, ⟨some 107, .fieldAddr 40 (.tmp 106) 0, 0, some (some 103), true⟩, .q, []⟩,
  ⟨38, ⟨some 108, .load 3 (.tmp 107), 3, some (some 103), true⟩, .h, []⟩,
  ⟨39, ⟨some 109, .fieldAddr 24 (.tmp 5) 1, 0, some (some 103), true⟩, .q, []⟩,
  ⟨40, ⟨some 110, .load 3 (.tmp 109), 3, some (some 103), true⟩, .h, []⟩,
  ⟨41, ⟨some 111, .binOp .neq 3 (.tmp 108) (.tmp 110) 3, 4, some (some 103), true⟩, .q, []⟩,
  ⟨42, ⟨some 112, .move (.tmp 111), 4, some (some 103), true⟩, .q, []⟩,
  ⟨43, ⟨some 113, .move (.tmp 7), 34, some (some 112), false⟩, .q, []⟩,
  ⟨44, ⟨some 114, .move (.tmp 11), 3, some (some 112), false⟩, .q, []⟩,
  ⟨45, ⟨some 115, .indexAddr 34 (.tmp 113) (.tmp 114), 0, some (some 112), false⟩, .q, []⟩,
  ⟨46, ⟨some 116, .fieldAddr 40 (.tmp 115) 4, 0, some (some 112), false⟩, .q, []⟩,
  ⟨47, ⟨some 117, .load 2 (.tmp 116), 2, some (some 112), false⟩, .h, []⟩,
  ⟨48, ⟨some 118, .fieldAddr 24 (.tmp 5) 5, 0, some (some 112), false⟩, .q, []⟩,
  ⟨49, ⟨some 119, .load 2 (.tmp 118), 2, some (some 112), false⟩, .h, []⟩,
  ⟨50, ⟨some 120, .binOp .gtr 2 (.tmp 117) (.tmp 119) 2, 4, some (some 112), false⟩, .q, []⟩,
  ⟨51, ⟨some 121, .pick (.tmp 112) (.const (.bool true)) (.tmp 120), 4, some (some 103), true⟩, .q, []⟩,
  ⟨52, ⟨some 122, .pick (.tmp 103) (.tmp 121) (.const (.bool false)), 4, some (some 99), false⟩, .q, []⟩,
  ⟨53, ⟨some 123, .pick (.tmp 99) (.const (.bool true)) (.tmp 122), 4, none, true⟩, .q, []⟩,
  ⟨54, ⟨some 124, .move (.tmp 123), 4, none, true⟩, .q, []⟩,
  ⟨55, ⟨some 125, .fieldAddr 24 (.tmp 5) 3, 0, some (some 124), false⟩, .q, []⟩,
  ⟨56, ⟨some 126, .load 3 (.tmp 125), 3, some (some 124), false⟩, .h, []⟩,
  ⟨57, ⟨some 127, .binOp .eql 3 (.tmp 126) (.const (.int .i64 2)) 3, 4, some (some 124), false⟩, .q, []⟩,
  ⟨58, ⟨some 128, .move (.tmp 127), 4, some (some 124), false⟩, .q, []⟩,
  ⟨59, ⟨some 129, .move (.tmp 7), 34, some (some 128), true⟩, .q, []⟩,
  ⟨60, ⟨some 130, .move (.tmp 11), 3, some (some 128), true⟩, .q, []⟩,
  ⟨61, ⟨some 131, .indexAddr 34 (.tmp 129) (.tmp 130), 0, some (some 128), true⟩, .q, []⟩,
  ⟨62, ⟨some 132, .fieldAddr 40 (.tmp 131) 1, 0, some (some 128), true⟩, .q, []⟩,
  ⟨63, ⟨some 133, .load 3 (.tmp 132), 3, some (some 128), true⟩, .h, []⟩,
  ⟨64, ⟨some 134, .fieldAddr 24 (.tmp 5) 1, 0, some (some 128), true⟩, .q, []⟩,
  ⟨65, ⟨some 135, .load 3 (.tmp 134), 3, some (some 128), true⟩, .h, []⟩,
  ⟨66, ⟨some 136, .binOp .neq 3 (.tmp 133) (.tmp 135) 3, 4, some (some 128), true⟩, .q, []⟩,
  ⟨67, ⟨some 137, .move (.tmp 136), 4, some (some 128), true⟩, .q, []⟩,
  ⟨68, ⟨some 138, .move (.tmp 7), 34, some (some 137), false⟩, .q, []⟩,
  ⟨69, ⟨some 139, .move (.tmp 11), 3, some (some 137), false⟩, .q, []⟩,
  ⟨70, ⟨some 140, .indexAddr 34 (.tmp 138) (.tmp 139), 0, some (some 137), false⟩, .q, []⟩,
  ⟨71, ⟨some 141, .fieldAddr 40 (.tmp 140) 4, 0, some (some 137), false⟩, .q, []⟩,
  ⟨72, ⟨some 142, .load 2 (.tmp 141), 2, some (some 137), false⟩, .h, []⟩,
  ⟨73, ⟨some 143, .fieldAddr 24 (.tmp 5) 5, 0, some (some 137), false⟩, .q, []⟩,
  ⟨74, ⟨some 144, .load 2 (.tmp 143), 2, some (some 137), false⟩, .h, []⟩,
  ⟨75, ⟨some 145, .binOp .lss 2 (.tmp 142) (.tmp 144) 2, 4, some (some 137), false⟩, .q, []⟩,
  ⟨76, ⟨some 146, .pick (.tmp 137) (.const (.bool true)) (.tmp 145), 4, some (some 128), true⟩, .q, []⟩,
  ⟨77, ⟨some 147, .pick (.tmp 128) (.tmp 146) (.const (.bool false)), 4, some (some 124), false⟩, .q, []⟩,
  ⟨78, ⟨some 148, .pick (.tmp 124) (.const (.bool true)) (.tmp 147), 4, none, true⟩, .q, []⟩]
theorem dc5_14 : drawC ap (drawOf T.c5 14).toList [0, 1, 2, 3, 4, 5, 6, 7, 8, 9, 10, 11, 12, 13, 14, 15, 16, 17, 18, 19, 20, 21, 22, 23, 24, 25, 26, 27, 28, 29, 30, 31, 32, 33, 34, 35, 36, 37, 38, 39, 40, 41, 42, 43, 44, 45, 46, 47, 48, 49, 50, 51, 52, 53, 54, 55, 56, 57, 58, 59, 60, 61, 62, 63, 64, 65, 66, 67, 68, 69, 70, 71, 72, 73, 74, 75, 76, 77, 78] [[], [], [0, 1], [0, 1, 2], [0, 1, 2, 3], [0, 1, 2, 3, 4], [0, 1, 2, 3, 4, 5], [0, 1, 2, 3, 4, 5, 6], [0, 1, 2, 3, 4, 5, 6], [0, 1, 2, 3, 4, 5, 6, 7, 8], [0, 1, 2, 3, 4, 5, 6, 7, 8, 9], [0, 1, 2, 3, 4, 5, 6, 7, 8, 9, 10], [0, 1, 2, 3, 4, 5, 6], [0, 1, 2, 3, 4, 5, 6, 12], [0, 1, 2, 3, 4, 5, 6, 7, 8, 9, 10, 11, 12, 13], [0, 1, 2, 3, 4, 5, 6, 7, 8, 9, 10, 11, 12, 13, 14], [0, 1, 2, 3, 4, 5, 6, 7, 8, 9, 10, 11, 12, 13, 14, 15], [0, 1, 2, 3, 4, 5, 6, 7, 8, 9, 10, 11, 12, 13, 14, 15, 16], [0, 1, 2, 3, 4, 5, 6, 7, 8, 9, 10, 11, 12, 13, 14, 15, 16], [0, 1, 2, 3, 4, 5, 6, 7, 8, 9, 10, 11, 12, 13, 14, 15, 16, 17, 18], [0, 1, 2, 3, 4, 5, 6, 7, 8, 9, 10, 11, 12, 13, 14, 15, 16, 17, 18, 19], [0, 1, 2, 3, 4, 5, 6, 7, 8, 9, 10, 11, 12, 13, 14, 15, 16, 17, 18, 19, 20], [0, 1, 2, 3, 4, 5, 6, 7, 8, 9, 10, 11, 12, 13, 14, 15, 16], [0, 1, 2, 3, 4, 5, 6, 7, 8, 9, 10, 11, 12, 13, 14, 15, 16], [0, 1, 2, 3, 4, 5, 6, 7, 8, 9, 10, 11, 12, 13, 14, 15, 16, 22, 23], [0, 1, 2, 3, 4, 5, 6, 7, 8, 9, 10, 11, 12, 13, 14, 15, 16, 22, 23, 24], [0, 1, 2, 3, 4, 5, 6, 7, 8, 9, 10, 11, 12, 13, 14, 15, 16, 22, 23, 24, 25], [0, 1, 2, 3, 4, 5, 6, 7, 8, 9, 10, 11, 12, 13, 14, 15, 16, 17, 18, 19, 20, 21, 22, 23, 24, 25, 26], [0, 1, 2, 3, 4, 5, 6, 7, 8, 9, 10, 11, 12, 13, 14, 15, 16, 17, 18, 19, 20, 21, 22, 23, 24, 25, 26, 27], [0, 1, 2, 3, 4, 5, 6, 7, 8, 9, 10, 11, 12, 13, 14, 15, 16, 17, 18, 19, 20, 21, 22, 23, 24, 25, 26, 27, 28], [0, 1, 2, 3, 4, 5, 6, 7, 8, 9, 10, 11, 12, 13, 14, 15, 16, 17, 18, 19, 20, 21, 22, 23, 24, 25, 26, 27, 28, 29], [0, 1, 2, 3, 4, 5, 6, 7, 8, 9, 10, 11, 12, 13, 14, 15, 16, 17, 18, 19, 20, 21, 22, 23, 24, 25, 26, 27, 28, 29, 30], [0, 1, 2, 3, 4, 5, 6, 7, 8, 9, 10, 11, 12, 13, 14, 15, 16, 17, 18, 19, 20, 21, 22, 23, 24, 25, 26, 27, 28, 29, 30, 31], [0, 1, 2, 3, 4, 5, 6, 7, 8, 9, 10, 11, 12, 13, 14, 15, 16, 17, 18, 19, 20, 21, 22, 23, 24, 25, 26, 27, 28, 29, 30, 31, 32], [0, 1, 2, 3, 4, 5, 6, 7, 8, 9, 10, 11, 12, 13, 14, 15, 16, 17, 18, 19, 20, 21, 22, 23, 24, 25, 26, 27, 28, 29, 30, 31, 32, 33], [0, 1, 2, 3, 4, 5, 6, 7, 8, 9, 10, 11, 12, 13, 14, 15, 16, 17, 18, 19, 20, 21, 22, 23, 24, 25, 26, 27, 28, 29, 30, 31, 32, 33], [0, 1, 2, 3, 4, 5, 6, 7, 8, 9, 10, 11, 12, 13, 14, 15, 16, 17, 18, 19, 20, 21, 22, 23, 24, 25, 26, 27, 28, 29, 30, 31, 32, 33, 34, 35], [0, 1, 2, 3, 4, 5, 6, 7, 8, 9, 10, 11, 12, 13, 14, 15, 16, 17, 18, 19, 20, 21, 22, 23, 24, 25, 26, 27, 28, 29, 30, 31, 32, 33, 34, 35, 36], [0, 1, 2, 3, 4, 5, 6, 7, 8, 9, 10, 11, 12, 13, 14, 15, 16, 17, 18, 19, 20, 21, 22, 23, 24, 25, 26, 27, 28, 29, 30, 31, 32, 33, 34, 35, 36, 37], [0, 1, 2, 3, 4, 5, 6, 7, 8, 9, 10, 11, 12, 13, 14, 15, 16, 17, 18, 19, 20, 21, 22, 23, 24, 25, 26, 27, 28, 29, 30, 31, 32, 33], [0, 1, 2, 3, 4, 5, 6, 7, 8, 9, 10, 11, 12, 13, 14, 15, 16, 17, 18, 19, 20, 21, 22, 23, 24, 25, 26, 27, 28, 29, 30, 31, 32, 33, 39], [0, 1, 2, 3, 4, 5, 6, 7, 8, 9, 10, 11, 12, 13, 14, 15, 16, 17, 18, 19, 20, 21, 22, 23, 24, 25, 26, 27, 28, 29, 30, 31, 32, 33, 34, 35, 36, 37, 38, 39, 40], [0, 1, 2, 3, 4, 5, 6, 7, 8, 9, 10, 11, 12, 13, 14, 15, 16, 17, 18, 19, 20, 21, 22, 23, 24, 25, 26, 27, 28, 29, 30, 31, 32, 33, 34, 35, 36, 37, 38, 39, 40, 41], [0, 1, 2, 3, 4, 5, 6, 7, 8, 9, 10, 11, 12, 13, 14, 15, 16, 17, 18, 19, 20, 21, 22, 23, 24, 25, 26, 27, 28, 29, 30, 31, 32, 33, 34, 35, 36, 37, 38, 39, 40, 41, 42], [0, 1, 2, 3, 4, 5, 6, 7, 8, 9, 10, 11, 12, 13, 14, 15, 16, 17, 18, 19, 20, 21, 22, 23, 24, 25, 26, 27, 28, 29, 30, 31, 32, 33, 34, 35, 36, 37, 38, 39, 40, 41, 42], [0, 1, 2, 3, 4, 5, 6, 7, 8, 9, 10, 11, 12, 13, 14, 15, 16, 17, 18, 19, 20, 21, 22, 23, 24, 25, 26, 27, 28, 29, 30, 31, 32, 33, 34, 35, 36, 37, 38, 39, 40, 41, 42, 43, 44], [0, 1, 2, 3, 4, 5, 6, 7, 8, 9, 10, 11, 12, 13, 14, 15, 16, 17, 18, 19, 20, 21, 22, 23, 24, 25, 26, 27, 28, 29, 30, 31, 32, 33, 34, 35, 36, 37, 38, 39, 40, 41, 42, 43, 44, 45], [0, 1, 2, 3, 4, 5, 6, 7, 8, 9, 10, 11, 12, 13, 14, 15, 16, 17, 18, 19, 20, 21, 22, 23, 24, 25, 26, 27, 28, 29, 30, 31, 32, 33, 34, 35, 36, 37, 38, 39, 40, 41, 42, 43, 44, 45, 46], [0, 1, 2, 3, 4, 5, 6, 7, 8, 9, 10, 11, 12, 13, 14, 15, 16, 17, 18, 19, 20, 21, 22, 23, 24, 25, 26, 27, 28, 29, 30, 31, 32, 33, 34, 35, 36, 37, 38, 39, 40, 41, 42], [0, 1, 2, 3, 4, 5, 6, 7, 8, 9, 10, 11, 12, 13, 14, 15, 16, 17, 18, 19, 20, 21, 22, 23, 24, 25, 26, 27, 28, 29, 30, 31, 32, 33, 34, 35, 36, 37, 38, 39, 40, 41, 42, 48], [0, 1, 2, 3, 4, 5, 6, 7, 8, 9, 10, 11, 12, 13, 14, 15, 16, 17, 18, 19, 20, 21, 22, 23, 24, 25, 26, 27, 28, 29, 30, 31, 32, 33, 34, 35, 36, 37, 38, 39, 40, 41, 42, 43, 44, 45, 46, 47, 48, 49], [0, 1, 2, 3, 4, 5, 6, 7, 8, 9, 10, 11, 12, 13, 14, 15, 16, 17, 18, 19, 20, 21, 22, 23, 24, 25, 26, 27, 28, 29, 30, 31, 32, 33, 34, 35, 36, 37, 38, 39, 40, 41, 42, 43, 44, 45, 46, 47, 48, 49, 50], [0, 1, 2, 3, 4, 5, 6, 7, 8, 9, 10, 11, 12, 13, 14, 15, 16, 17, 18, 19, 20, 21, 22, 23, 24, 25, 26, 27, 28, 29, 30, 31, 32, 33, 34, 35, 36, 37, 38, 39, 40, 41, 42, 43, 44, 45, 46, 47, 48, 49, 50, 51], [0, 1, 2, 3, 4, 5, 6, 7, 8, 9, 10, 11, 12, 13, 14, 15, 16, 17, 18, 19, 20, 21, 22, 23, 24, 25, 26, 27, 28, 29, 30, 31, 32, 33, 34, 35, 36, 37, 38, 39, 40, 41, 42, 43, 44, 45, 46, 47, 48, 49, 50, 51, 52], [0, 1, 2, 3, 4, 5, 6, 7, 8, 9, 10, 11, 12, 13, 14, 15, 16, 17, 18, 19, 20, 21, 22, 23, 24, 25, 26, 27, 28, 29, 30, 31, 32, 33, 34, 35, 36, 37, 38, 39, 40, 41, 42, 43, 44, 45, 46, 47, 48, 49, 50, 51, 52, 53], [0, 1, 2, 3, 4, 5, 6, 7, 8, 9, 10, 11, 12, 13, 14, 15, 16, 17, 18, 19, 20, 21, 22, 23, 24, 25, 26, 27, 28, 29, 30, 31, 32, 33, 34, 35, 36, 37, 38, 39, 40, 41, 42, 43, 44, 45, 46, 47, 48, 49, 50, 51, 52, 53, 54], [0, 1, 2, 3, 4, 5, 6, 7, 8, 9, 10, 11, 12, 13, 14, 15, 16, 17, 18, 19, 20, 21, 22, 23, 24, 25, 26, 27, 28, 29, 30, 31, 32, 33, 34, 35, 36, 37, 38, 39, 40, 41, 42, 43, 44, 45, 46, 47, 48, 49, 50, 51, 52, 53, 54, 55], [0, 1, 2, 3, 4, 5, 6, 7, 8, 9, 10, 11, 12, 13, 14, 15, 16, 17, 18, 19, 20, 21, 22, 23, 24, 25, 26, 27, 28, 29, 30, 31, 32, 33, 34, 35, 36, 37, 38, 39, 40, 41, 42, 43, 44, 45, 46, 47, 48, 49, 50, 51, 52, 53, 54, 55, 56], [0, 1, 2, 3, 4, 5, 6, 7, 8, 9, 10, 11, 12, 13, 14, 15, 16, 17, 18, 19, 20, 21, 22, 23, 24, 25, 26, 27, 28, 29, 30, 31, 32, 33, 34, 35, 36, 37, 38, 39, 40, 41, 42, 43, 44, 45, 46, 47, 48, 49, 50, 51, 52, 53, 54, 55, 56, 57], [0, 1, 2, 3, 4, 5, 6, 7, 8, 9, 10, 11, 12, 13, 14, 15, 16, 17, 18, 19, 20, 21, 22, 23, 24, 25, 26, 27, 28, 29, 30, 31, 32, 33, 34, 35, 36, 37, 38, 39, 40, 41, 42, 43, 44, 45, 46, 47, 48, 49, 50, 51, 52, 53, 54, 55, 56, 57, 58], [0, 1, 2, 3, 4, 5, 6, 7, 8, 9, 10, 11, 12, 13, 14, 15, 16, 17, 18, 19, 20, 21, 22, 23, 24, 25, 26, 27, 28, 29, 30, 31, 32, 33, 34, 35, 36, 37, 38, 39, 40, 41, 42, 43, 44, 45, 46, 47, 48, 49, 50, 51, 52, 53, 54, 55, 56, 57, 58], [0, 1, 2, 3, 4, 5, 6, 7, 8, 9, 10, 11, 12, 13, 14, 15, 16, 17, 18, 19, 20, 21, 22, 23, 24, 25, 26, 27, 28, 29, 30, 31, 32, 33, 34, 35, 36, 37, 38, 39, 40, 41, 42, 43, 44, 45, 46, 47, 48, 49, 50, 51, 52, 53, 54, 55, 56, 57, 58, 59, 60], [0, 1, 2, 3, 4, 5, 6, 7, 8, 9, 10, 11, 12, 13, 14, 15, 16, 17, 18, 19, 20, 21, 22, 23, 24, 25, 26, 27, 28, 29, 30, 31, 32, 33, 34, 35, 36, 37, 38, 39, 40, 41, 42, 43, 44, 45, 46, 47, 48, 49, 50, 51, 52, 53, 54, 55, 56, 57, 58, 59, 60, 61], [0, 1, 2, 3, 4, 5, 6, 7, 8, 9, 10, 11, 12, 13, 14, 15, 16, 17, 18, 19, 20, 21, 22, 23, 24, 25, 26, 27, 28, 29, 30, 31, 32, 33, 34, 35, 36, 37, 38, 39, 40, 41, 42, 43, 44, 45, 46, 47, 48, 49, 50, 51, 52, 53, 54, 55, 56, 57, 58, 59, 60, 61, 62], [0, 1, 2, 3, 4, 5, 6, 7, 8, 9, 10, 11, 12, 13, 14, 15, 16, 17, 18, 19, 20, 21, 22, 23, 24, 25, 26, 27, 28, 29, 30, 31, 32, 33, 34, 35, 36, 37, 38, 39, 40, 41, 42, 43, 44, 45, 46, 47, 48, 49, 50, 51, 52, 53, 54, 55, 56, 57, 58], [0, 1, 2, 3, 4, 5, 6, 7, 8, 9, 10, 11, 12, 13, 14, 15, 16, 17, 18, 19, 20, 21, 22, 23, 24, 25, 26, 27, 28, 29, 30, 31, 32, 33, 34, 35, 36, 37, 38, 39, 40, 41, 42, 43, 44, 45, 46, 47, 48, 49, 50, 51, 52, 53, 54, 55, 56, 57, 58, 64], [0, 1, 2, 3, 4, 5, 6, 7, 8, 9, 10, 11, 12, 13, 14, 15, 16, 17, 18, 19, 20, 21, 22, 23, 24, 25, 26, 27, 28, 29, 30, 31, 32, 33, 34, 35, 36, 37, 38, 39, 40, 41, 42, 43, 44, 45, 46, 47, 48, 49, 50, 51, 52, 53, 54, 55, 56, 57, 58, 59, 60, 61, 62, 63, 64, 65], [0, 1, 2, 3, 4, 5, 6, 7, 8, 9, 10, 11, 12, 13, 14, 15, 16, 17, 18, 19, 20, 21, 22, 23, 24, 25, 26, 27, 28, 29, 30, 31, 32, 33, 34, 35, 36, 37, 38, 39, 40, 41, 42, 43, 44, 45, 46, 47, 48, 49, 50, 51, 52, 53, 54, 55, 56, 57, 58, 59, 60, 61, 62, 63, 64, 65, 66], [0, 1, 2, 3, 4, 5, 6, 7, 8, 9, 10, 11, 12, 13, 14, 15, 16, 17, 18, 19, 20, 21, 22, 23, 24, 25, 26, 27, 28, 29, 30, 31, 32, 33, 34, 35, 36, 37, 38, 39, 40, 41, 42, 43, 44, 45, 46, 47, 48, 49, 50, 51, 52, 53, 54, 55, 56, 57, 58, 59, 60, 61, 62, 63, 64, 65, 66, 67], [0, 1, 2, 3, 4, 5, 6, 7, 8, 9, 10, 11, 12, 13, 14, 15, 16, 17, 18, 19, 20, 21, 22, 23, 24, 25, 26, 27, 28, 29, 30, 31, 32, 33, 34, 35, 36, 37, 38, 39, 40, 41, 42, 43, 44, 45, 46, 47, 48, 49, 50, 51, 52, 53, 54, 55, 56, 57, 58, 59, 60, 61, 62, 63, 64, 65, 66, 67], [0, 1, 2, 3, 4, 5, 6, 7, 8, 9, 10, 11, 12, 13, 14, 15, 16, 17, 18, 19, 20, 21, 22, 23, 24, 25, 26, 27, 28, 29, 30, 31, 32, 33, 34, 35, 36, 37, 38, 39, 40, 41, 42, 43, 44, 45, 46, 47, 48, 49, 50, 51, 52, 53, 54, 55, 56, 57, 58, 59, 60, 61, 62, 63, 64, 65, 66, 67, 68, 69], [0, 1, 2, 3, 4, 5, 6, 7, 8, 9, 10, 11, 12, 13, 14, 15, 16, 17, 18, 19, 20, 21, 22, 23, 24, 25, 26, 27, 28, 29, 30, 31, 32, 33, 34, 35, 36, 37, 38, 39, 40, 41, 42, 43, 44, 45, 46, 47, 48, 49, 50, 51, 52, 53, 54, 55, 56, 57, 58, 59, 60, 61, 62, 63, 64, 65, 66, 67, 68, 69, 70], [0, 1, 2, 3, 4, 5, 6, 7, 8, 9, 10, 11, 12, 13, 14, 15, 16, 17, 18, 19, 20, 21, 22, 23, 24, 25, 26, 27, 28, 29, 30, 31, 32, 33, 34, 35, 36, 37, 38, 39, 40, 41, 42, 43, 44, 45, 46, 47, 48, 49, 50, 51, 52, 53, 54, 55, 56, 57, 58, 59, 60, 61, 62, 63, 64, 65, 66, 67, 68, 69, 70, 71], [0, 1, 2, 3, 4, 5, 6, 7, 8, 9, 10, 11, 12, 13, 14, 15, 16, 17, 18, 19, 20, 21, 22, 23, 24, 25, 26, 27, 28, 29, 30, 31, 32, 33, 34, 35, 36, 37, 38, 39, 40, 41, 42, 43, 44, 45, 46, 47, 48, 49, 50, 51, 52, 53, 54, 55, 56, 57, 58, 59, 60, 61, 62, 63, 64, 65, 66, 67], [0, 1, 2, 3, 4, 5, 6, 7, 8, 9, 10, 11, 12, 13, 14, 15, 16, 17, 18, 19, 20, 21, 22, 23, 24, 25, 26, 27, 28, 29, 30, 31, 32, 33, 34, 35, 36, 37, 38, 39, 40, 41, 42, 43, 44, 45, 46, 47, 48, 49, 50, 51, 52, 53, 54, 55, 56, 57, 58, 59, 60, 61, 62, 63, 64, 65, 66, 67, 73], [0, 1, 2, 3, 4, 5, 6, 7, 8, 9, 10, 11, 12, 13, 14, 15, 16, 17, 18, 19, 20, 21, 22, 23, 24, 25, 26, 27, 28, 29, 30, 31, 32, 33, 34, 35, 36, 37, 38, 39, 40, 41, 42, 43, 44, 45, 46, 47, 48, 49, 50, 51, 52, 53, 54, 55, 56, 57, 58, 59, 60, 61, 62, 63, 64, 65, 66, 67, 68, 69, 70, 71, 72, 73, 74], [0, 1, 2, 3, 4, 5, 6, 7, 8, 9, 10, 11, 12, 13, 14, 15, 16, 17, 18, 19, 20, 21, 22, 23, 24, 25, 26, 27, 28, 29, 30, 31, 32, 33, 34, 35, 36, 37, 38, 39, 40, 41, 42, 43, 44, 45, 46, 47, 48, 49, 50, 51, 52, 53, 54, 55, 56, 57, 58, 59, 60, 61, 62, 63, 64, 65, 66, 67, 68, 69, 70, 71, 72, 73, 74, 75], [0, 1, 2, 3, 4, 5, 6, 7, 8, 9, 10, 11, 12, 13, 14, 15, 16, 17, 18, 19, 20, 21, 22, 23, 24, 25, 26, 27, 28, 29, 30, 31, 32, 33, 34, 35, 36, 37, 38, 39, 40, 41, 42, 43, 44, 45, 46, 47, 48, 49, 50, 51, 52, 53, 54, 55, 56, 57, 58, 59, 60, 61, 62, 63, 64, 65, 66, 67, 68, 69, 70, 71, 72, 73, 74, 75, 76], [0, 1, 2, 3, 4, 5, 6, 7, 8, 9, 10, 11, 12, 13, 14, 15, 16, 17, 18, 19, 20, 21, 22, 23, 24, 25, 26, 27, 28, 29, 30, 31, 32, 33, 34, 35, 36, 37, 38, 39, 40, 41, 42, 43, 44, 45, 46, 47, 48, 49, 50, 51, 52, 53, 54, 55, 56, 57, 58, 59, 60, 61, 62, 63, 64, 65, 66, 67, 68, 69, 70, 71, 72, 73, 74, 75, 76, 77]] = some d5_14 := by kernel_rfl
def d5_16 : List DP := [⟨0, ⟨some 149, .move (.tmp 11), 3, none, true⟩, .q, []⟩,
  ⟨1, ⟨some 150, .binOp .gtr 3 (.tmp 149) (.const (.int .i64 0)) 3, 4, none, true⟩, .q, []⟩,
  ⟨2, ⟨some 151, .move (.tmp 150), 4, none, true⟩, .q, []⟩,
  ⟨3, ⟨some 152, .fieldAddr 24 (.tmp 5) 3, 0, some (some 151), true⟩, .q, []⟩,
  ⟨4, ⟨some 153, .load 3 (.tmp 152), 3, some (some 151), true⟩, .h, []⟩,
  ⟨5, ⟨some 154, .binOp .eql 3 (.tmp 153) (.const (.int .i64 1)) 3, 4, some (some 151), true⟩, .q, []⟩,
  ⟨6, ⟨some 155, .move (.tmp 154), 4, some (some 151), true⟩, .q, []⟩,
  ⟨7, ⟨some 156, .move (.tmp 7), 34, some (some 155), true⟩, .q, []⟩,
  ⟨8, ⟨some 157, .move (.tmp 11), 3, some (some 155), true⟩, .q, []⟩,
  ⟨9, ⟨some 158, .indexAddr 34 (.tmp 156) (.tmp 157), 0, some (some 155), true⟩, .q, []⟩,
  ⟨10, ⟨some 159, .fieldAddr 40 (.tmp 158) 4, 0, some (some 155), true⟩, .q, []⟩,
  ⟨11, ⟨some 160, .load 2 (.tmp 159), 2, some (some 155), true⟩, .h, []⟩,
  ⟨12, ⟨some 161, .move (.tmp 7), 34, some (some 155), true⟩, .q, []⟩,
  ⟨13, ⟨some 162, .move (.tmp 11), 3, some (some 155), true⟩, .q, []⟩,
  ⟨14, ⟨some 163, .binOp .sub 3 (.tmp 162) (.const (.int .i64 1)) 3, 3, some (some 155), true⟩, .q, []⟩,
  ⟨15, ⟨some 164, .indexAddr 34 (.tmp 161) (.tmp 163), 0, some (some 155), true⟩, .q, []⟩,
  ⟨16, ⟨some 165, .fieldAddr 40 (.tmp 164) 4, 0, some (some 155), true⟩, .q, []⟩,
  ⟨17, ⟨some 166, .load 2 (.tmp 165), 2, some (some 155), true⟩, .h, []⟩,
  ⟨18, ⟨some 167, .binOp .lss 2 (.tmp 160) (.tmp 166) 2, 4, some (some 155), true⟩, .q, []⟩,
  ⟨19, ⟨some 168, .pick (.tmp 155) (.tmp 167) (.const (.bool false)), 4, some (some 151), true⟩, .q, []⟩,
  ⟨20, ⟨some 169, .move (.tmp 168), 4, some (some 151), true⟩, .q, []⟩,
  ⟨21, ⟨some 170, .fieldAddr 24 (.tmp 5) 3, 0, some (some 169), false⟩, .q, []⟩,
  ⟨22, ⟨some 171, .load 3 (.tmp 170), 3, some (some 169), false⟩, .h, []⟩,
  ⟨23, ⟨some 172, .binOp .eql 3 (.tmp 171) (.const (.int .i64 2)) 3, 4, some (some 169), false⟩, .q, []⟩,
  ⟨24, ⟨some 173, .move (.tmp 172), 4, some (some 169), false⟩, .q, []⟩,
  ⟨25, ⟨some 174, .move (.tmp 7), 34, some (some 173), true⟩, .q, []⟩,
  ⟨26, ⟨some 175, .move (.tmp 11), 3, some (some 173), true⟩, .q, []⟩,
  ⟨27, ⟨some 176, .indexAddr 34 (.tmp 174) (.tmp 175), 0, some (some 173), true⟩, .q, []⟩,
  ⟨28, ⟨some 177, .fieldAddr 40 (.tmp 176) 4, 0, some (some 173), true⟩, .q, []⟩,
  ⟨29, ⟨some 178, .load 2 (.tmp 177), 2, some (some 173), true⟩, .h, []⟩,
  ⟨30, ⟨some 179, .move (.tmp 7), 34, some (some 173), true⟩, .q, []⟩,
  ⟨31, ⟨some 180, .move (.tmp 11), 3, some (some 173), true⟩, .q, []⟩,
  ⟨32, ⟨some 181, .binOp .sub 3 (.tmp 180) (.const (.int .i64 1)) 3, 3, some (some 173), true⟩, .q, []⟩,
  ⟨33, ⟨some 182, .indexAddr 34 (.tmp 179) (.tmp 181), 0, some (some 173), true⟩, .q, []⟩,
  ⟨34, ⟨some 183, .fieldAddr 40 (.tmp 182) 4, 0, some (some 173), true⟩, .q, []⟩,
  ⟨35, ⟨some 184, .load 2 (.tmp 183), 2, some (some 173), true⟩, .h, []⟩,
  ⟨36, ⟨some 185, .binOp .gtr 2 (.tmp 178) (.tmp 184) 2, 4, some (some 173), true⟩, .q, []⟩,
  ⟨37, ⟨some 186, .pick (.tmp 173) (.tmp 185) (.const (.bool false)), 4, some (some 169), false⟩, .q, []⟩,
  ⟨38, ⟨some 187, .pick (.tmp 169) (.const (.bool true)) (.tmp 186), 4, some (some 151), true⟩, .q, []⟩,
  ⟨39, ⟨some 188, .pick (.tmp 151) (.tmp 187) (.const (.bool false)), 4, none, true⟩, .q, []⟩]
theorem dc5_16 : drawC ap (drawOf T.c5 16).toList [0, 1, 2, 3, 4, 5, 6, 7, 8, 9, 10, 11, 12, 13, 14, 15, 16, 17, 18, 19, 20, 21, 22, 23, 24, 25, 26, 27, 28, 29, 30, 31, 32, 33, 34, 35, 36, 37, 38, 39] [[], [0], [0, 1], [0, 1, 2], [0, 1, 2, 3], [0, 1, 2, 3, 4], [0, 1, 2, 3, 4, 5], [0, 1, 2, 3, 4, 5, 6], [0, 1, 2, 3, 4, 5, 6], [0, 1, 2, 3, 4, 5, 6, 7, 8], [0, 1, 2, 3, 4, 5, 6, 7, 8, 9], [0, 1, 2, 3, 4, 5, 6, 7, 8, 9, 10], [0, 1, 2, 3, 4, 5, 6], [0, 1, 2, 3, 4, 5, 6], [0, 1, 2, 3, 4, 5, 6, 13], [0, 1, 2, 3, 4, 5, 6, 12, 13, 14], [0, 1, 2, 3, 4, 5, 6, 12, 13, 14, 15], [0, 1, 2, 3, 4, 5, 6, 12, 13, 14, 15, 16], [0, 1, 2, 3, 4, 5, 6, 7, 8, 9, 10, 11, 12, 13, 14, 15, 16, 17], [0, 1, 2, 3, 4, 5, 6, 7, 8, 9, 10, 11, 12, 13, 14, 15, 16, 17, 18], [0, 1, 2, 3, 4, 5, 6, 7, 8, 9, 10, 11, 12, 13, 14, 15, 16, 17, 18, 19], [0, 1, 2, 3, 4, 5, 6, 7, 8, 9, 10, 11, 12, 13, 14, 15, 16, 17, 18, 19, 20], [0, 1, 2, 3, 4, 5, 6, 7, 8, 9, 10, 11, 12, 13, 14, 15, 16, 17, 18, 19, 20, 21], [0, 1, 2, 3, 4, 5, 6, 7, 8, 9, 10, 11, 12, 13, 14, 15, 16, 17, 18, 19, 20, 21, 22], [0, 1, 2, 3, 4, 5, 6, 7, 8, 9, 10, 11, 12, 13, 14, 15, 16, 17, 18, 19, 20, 21, 22, 23], [0, 1, 2, 3, 4, 5, 6, 7, 8, 9, 10, 11, 12, 13, 14, 15, 16, 17, 18, 19, 20, 21, 22, 23, 24], [0, 1, 2, 3, 4, 5, 6, 7, 8, 9, 10, 11, 12, 13, 14, 15, 16, 17, 18, 19, 20, 21, 22, 23, 24], [0, 1, 2, 3, 4, 5, 6, 7, 8, 9, 10, 11, 12, 13, 14, 15, 16, 17, 18, 19, 20, 21, 22, 23, 24, 25, 26], [0, 1, 2, 3, 4, 5, 6, 7, 8, 9, 10, 11, 12, 13, 14, 15, 16, 17, 18, 19, 20, 21, 22, 23, 24, 25, 26, 27], [0, 1, 2, 3, 4, 5, 6, 7, 8, 9, 10, 11, 12, 13, 14, 15, 16, 17, 18, 19, 20, 21, 22, 23, 24, 25, 26, 27, 28], [0, 1, 2, 3, 4, 5, 6, 7, 8, 9, 10, 11, 12, 13, 14, 15, 16, 17, 18, 19, 20, 21, 22, 23, 24], [0, 1, 2, 3, 4, 5, 6, 7, 8, 9, 10, 11, 12, 13, 14, 15, 16, 17, 18, 19, 20, 21, 22, 23, 24], [0, 1, 2, 3, 4, 5, 6, 7, 8, 9, 10, 11, 12, 13, 14, 15, 16, 17, 18, 19, 20, 21, 22, 23, 24, 31], [0, 1, 2, 3, 4, 5, 6, 7, 8, 9, 10, 11, 12, 13, 14, 15, 16, 17, 18, 19, 20, 21, 22, 23, 24, 30, 31, 32], [0, 1, 2, 3, 4, 5, 6, 7, 8, 9, 10, 11, 12, 13, 14, 15, 16, 17, 18, 19, 20, 21, 22, 23, 24, 30, 31, 32, 33], [0, 1, 2, 3, 4, 5, 6, 7, 8, 9, 10, 11, 12, 13, 14, 15, 16, 17, 18, 19, 20, 21, 22, 23, 24, 30, 31, 32, 33, 34], [0, 1, 2, 3, 4, 5, 6, 7, 8, 9, 10, 11, 12, 13, 14, 15, 16, 17, 18, 19, 20, 21, 22, 23, 24, 25, 26, 27, 28, 29, 30, 31, 32, 33, 34, 35], [0, 1, 2, 3, 4, 5, 6, 7, 8, 9, 10, 11, 12, 13, 14, 15, 16, 17, 18, 19, 20, 21, 22, 23, 24, 25, 26, 27, 28, 29, 30, 31, 32, 33, 34, 35, 36], [0, 1, 2, 3, 4, 5, 6, 7, 8, 9, 10, 11, 12, 13, 14, 15, 16, 17, 18, 19, 20, 21, 22, 23, 24, 25, 26, 27, 28, 29, 30, 31, 32, 33, 34, 35, 36, 37], [0, 1, 2, 3, 4, 5, 6, 7, 8, 9, 10, 11, 12, 13, 14, 15, 16, 17, 18, 19, 20, 21, 22, 23, 24, 25, 26, 27, 28, 29, 30, 31, 32, 33, 34, 35, 36, 37, 38]] = some d5_16 := by kernel_rfl
def d5_28 : List DP := [⟨0, ⟨some 215, .move (.tmp 15), 3, none, true⟩, .q, []⟩,
  ⟨1, ⟨some 216, .move (.tmp 4), 22, none, true⟩, .q, []⟩,
  ⟨2, ⟨some 217, .call (⟨.builtin .len, #[.tmp 216], #[22]⟩), 3, none, true⟩, .q, []⟩,
  ⟨3, ⟨some 218, .binOp .lss 3 (.tmp 215) (.tmp 217) 3, 4, none, true⟩, .q, []⟩,
  ⟨4, ⟨some 219, .move (.tmp 218), 4, none, true⟩, .q, []⟩,
  ⟨5, ⟨some 220, .move (.tmp 4), 22, some (some 219), true⟩, .q, []⟩,
  ⟨6, ⟨some 221, .move (.tmp 15), 3, some (some 219), true⟩, .q, []⟩,
  ⟨7, ⟨some 222, .indexAddr 22 (.tmp 220) (.tmp 221), 0, some (some 219), true⟩, .q, []⟩,
  ⟨8, ⟨some 223, .fieldAddr 24 (.tmp 222) 0, 0, some (some 219), true⟩, .q, []⟩,
  ⟨9, ⟨some 224, .load 2 (.tmp 223), 2, some (some 219), true⟩, .h, []⟩,
  ⟨10, ⟨some 225, .move (.tmp 6), 22, some (some 219), true⟩, .q, []⟩,
  ⟨11, ⟨some 226, .move (.tmp 16), 3, some (some 219), true⟩, .q, []⟩,
  ⟨12, ⟨some 227, .indexAddr 22 (.tmp 225) (.tmp 226), 0, some (some 219), true⟩, .q, []⟩,
  ⟨13, ⟨some 228, .fieldAddr 24 (.tmp 227) 0, 0, some (some 219), true⟩, .q, []⟩,
  ⟨14, ⟨some 229, .load 2 (.tmp 228), 2, some (some 219), true⟩, .h, []⟩,
  ⟨15, ⟨some 230, .binOp .neq 2 (.tmp 224) (.tmp 229) 2, 4, some (some 219), true⟩, .q, []⟩,
  ⟨16, ⟨some 231, .pick (.tmp 219) (.tmp 230) (.const (.bool false)), 4, none, true⟩, .q, []⟩]
theorem dc5_28 : drawC ap (drawOf T.c5 28).toList [0, 1, 2, 3, 4, 5, 6, 7, 8, 9, 10, 11, 12, 13, 14, 15, 16] [[], [], [1], [0, 1, 2], [0, 1, 2, 3], [0, 1, 2, 3, 4], [0, 1, 2, 3, 4], [0, 1, 2, 3, 4, 5, 6], [0, 1, 2, 3, 4, 5, 6, 7], [0, 1, 2, 3, 4, 5, 6, 7, 8], [0, 1, 2, 3, 4], [0, 1, 2, 3, 4], [0, 1, 2, 3, 4, 10, 11], [0, 1, 2, 3, 4, 10, 11, 12], [0, 1, 2, 3, 4, 10, 11, 12, 13], [0, 1, 2, 3, 4, 5, 6, 7, 8, 9, 10, 11, 12, 13, 14], [0, 1, 2, 3, 4, 5, 6, 7, 8, 9, 10, 11, 12, 13, 14, 15]] = some d5_28 := by kernel_rfl
def d5_30 : List DP := [⟨0, ⟨some 234, .move (.tmp 15), 3, none, true⟩, .q, []⟩,
  ⟨1, ⟨some 235, .move (.tmp 4), 22, none, true⟩, .q, []⟩,
  ⟨2, ⟨some 236, .call (⟨.builtin .len, #[.tmp 235], #[22]⟩), 3, none, true⟩, .q, []⟩,
  ⟨3, ⟨some 237, .binOp .eql 3 (.tmp 234) (.tmp 236) 3, 4, none, true⟩, .q, []⟩,
  ⟨4, ⟨some 238, .move (.tmp 237), 4, none, true⟩, .q, []⟩,
  ⟨5, ⟨some 239, .move (.tmp 6), 22, some (some 238), false⟩, .q, []⟩,
  ⟨6, ⟨some 240, .move (.tmp 16), 3, some (some 238), false⟩, .q, []⟩,
  ⟨7, ⟨some 241, .indexAddr 22 (.tmp 239) (.tmp 240), 0, some (some 238), false⟩, .q, []⟩,
  ⟨8, ⟨some 242, .fieldAddr 24 (.tmp 241) 4, 0, some (some 238), false⟩, .q, []⟩,
  ⟨9, ⟨some 243, .load 2 (.tmp 242), 2, some (some 238), false⟩, .h, []⟩,
  ⟨10, ⟨some 244, .move (.tmp 4), 22, some (some 238), false⟩, .q, []⟩,
  ⟨11, ⟨some 245, .move (.tmp 15), 3, some (some 238), false⟩, .q, []⟩,
  ⟨12, ⟨some 246, .indexAddr 22 (.tmp 244) (.tmp 245), 0, some (some 238), false⟩, .q, []⟩,
  ⟨13, ⟨some 247, .fieldAddr 24 (.tmp 246) 4, 0, some (some 238), false⟩, .q, []⟩,
  ⟨14, ⟨some 248, .load 2 (.tmp 247), 2, some (some 238), false⟩, .h, []⟩,
  ⟨15, ⟨some 249, .binOp .gtr 2 (.tmp 243) (.tmp 248) 2, 4, some (some 238), false⟩, .q, []⟩,
  ⟨16, ⟨some 250, .pick (.tmp 238) (.const (.bool true)) (.tmp 249), 4, none, true⟩, .q, []⟩,
  ⟨17, ⟨some 251, .move (.tmp 250), 4, none, true⟩, .q, []⟩,
  ⟨18, ⟨some 252, .move (.tmp 6), 22, some (some 251), false⟩, .q, []⟩,
  ⟨19, ⟨some 253, .move (.tmp 16), 3, some (some 251), false⟩, .q, []⟩,
  ⟨20, ⟨some 254, .indexAddr 22 (.tmp 252) (.tmp 253), 0, some (some 251), false⟩, .q, []⟩,
  ⟨21, ⟨some 255, .fieldAddr 24 (.tmp 254) 5, 0, some (some 251), false⟩, .q, []⟩,
  ⟨22, ⟨some 256, .load 2 (.tmp 255), 2, some (some 251), false⟩, .h, []⟩,
  ⟨23, ⟨some 257, .move (.tmp 4), 22, some (some 251), false⟩, .q, []⟩,
  ⟨24, ⟨some 258, .move (.tmp 15), 3, some (some 251), false⟩, .q, []⟩,
  ⟨25, ⟨some 259, .indexAddr 22 (.tmp 257) (.tmp 258), 0, some (some 251), false⟩, .q, []⟩,
  ⟨26, ⟨some 260, .fieldAddr 24 (.tmp 259) 5, 0, some (some 251), false⟩, .q, []⟩,
  ⟨27, ⟨some 261, .load 2 (.tmp 260), 2, some (some 251), false⟩, .h, []⟩,
  ⟨28, ⟨some 262, .binOp .neq 2 (.tmp 256) (.tmp 261) 2, 4, some (some 251), false⟩, .q, []⟩,
  ⟨29, ⟨some 263, .pick (.tmp 251) (.const (.bool true)) (.tmp 262), 4, none, true⟩, .q, []⟩,
  ⟨30, ⟨some 264, .move (.tmp 263), 4, none, true⟩, .q, []⟩,
  ⟨31, ⟨some 265, .move (.tmp 6), 22, some (some 264), false⟩, .q, []⟩,
  ⟨32, ⟨some 266, .move (.tmp 16), 3, some (some 264), false⟩, .q, []⟩,
  ⟨33, ⟨some 267, .indexAddr 22 (.tmp 265) (.tmp 266), 0, some (some 264), false⟩, .q, []⟩,
  ⟨34, ⟨some 268, .fieldAddr 24 (.tmp 267) 1, 0, some (some 264), false⟩, .q, []⟩,
  ⟨35, ⟨some 269, .load 3 (.tmp 268), 3, some (some 264), false⟩, .h, []⟩,
  ⟨36, ⟨some 270, .move (.tmp 4), 22, some (some 264), false⟩, .q, []⟩,
  ⟨37, ⟨some 271, .move (.tmp 15), 3, some (some 264), false⟩, .q, []⟩,
  ⟨38, ⟨some 272, .indexAddr 22 (.tmp 270) (.tmp 271), 0, some (some 264), false⟩, .q, []⟩,
  ⟨39, ⟨some 273, .fieldAddr 24 (.tmp 272) 1, 0, some (some 264), false⟩, .q, []⟩,
  ⟨40, ⟨some 274, .load 3 (.tmp 273), 3, some (some 264), false⟩, .h, []⟩,
  ⟨41, ⟨some 275, .binOp .neq 3 (.tmp 269) (.tmp 274) 3, 4, some (some 264), false⟩, .q, []⟩,
  ⟨42, ⟨some 276, .pick (.tmp 264) (.const (.bool true)) (.tmp 275), 4, none, true⟩, .q, []⟩,
  ⟨43, ⟨some 277, .move (.tmp 276), 4, none, true⟩, .q, []⟩,
  ⟨44, ⟨some 278, .move (.tmp 6), 22, some (some 277), false⟩, .q, []⟩,
  ⟨45, ⟨some 279, .move (.tmp 16), 3, some (some 277), false⟩, .q, []⟩,
  ⟨46, ⟨some 280, .indexAddr 22 (.tmp 278) (.tmp 279), 0, some (some 277), false⟩, .q, []⟩,
  ⟨47, ⟨some 281, .fieldAddr 24 (.tmp 280) 3, 0, some (some 277), false⟩, .q, []⟩,
  ⟨48, ⟨some 282, .load 3 (.tmp 281), 3, some (some 277), false⟩, .h, []⟩,
  ⟨49, ⟨some 283, .move (.tmp 4), 22, some (some 277), false⟩, .q, []⟩,
  ⟨50, ⟨some 284, .move (.tmp 15), 3, some (some 277), false⟩, .q, []⟩,
  ⟨51, ⟨some 285, .indexAddr 22 (.tmp 283) (.tmp 284), 0, some (some 277), false⟩, .q, []⟩,
  ⟨52, ⟨some 286, .fieldAddr 24 (.tmp 285) 3, 0, some (some 277), false⟩, .q, []⟩,
  ⟨53, ⟨some 287, .load 3 (.tmp 286), 3, some (some 277), false⟩, .h, []⟩,
  ⟨54, ⟨some 288, .binOp .neq 3 (.tmp 282) (.tmp 287) 3, 4, some (some 277), false⟩, .q, []⟩,
  ⟨55, ⟨some 289, .pick (.tmp 277) (.const (.bool true)) (.tmp 288), 4, none, true⟩, .q, []⟩]
theorem dc5_30 : drawC ap (drawOf T.c5 30).toList [0, 1, 2, 3, 4, 5, 6, 7, 8, 9, 10, 11, 12, 13, 14, 15, 16, 17, 18, 19, 20, 21, 22, 23, 24, 25, 26, 27, 28, 29, 30, 31, 32, 33, 34, 35, 36, 37, 38, 39, 40, 41, 42, 43, 44, 45, 46, 47, 48, 49, 50, 51, 52, 53, 54, 55] [[], [], [1], [0, 1, 2], [0, 1, 2, 3], [0, 1, 2, 3, 4], [0, 1, 2, 3, 4], [0, 1, 2, 3, 4, 5, 6], [0, 1, 2, 3, 4, 5, 6, 7], [0, 1, 2, 3, 4, 5, 6, 7, 8], [0, 1, 2, 3, 4], [0, 1, 2, 3, 4], [0, 1, 2, 3, 4, 10, 11], [0, 1, 2, 3, 4, 10, 11, 12], [0, 1, 2, 3, 4, 10, 11, 12, 13], [0, 1, 2, 3, 4, 5, 6, 7, 8, 9, 10, 11, 12, 13, 14], [0, 1, 2, 3, 4, 5, 6, 7, 8, 9, 10, 11, 12, 13, 14, 15], [0, 1, 2, 3, 4, 5, 6, 7, 8, 9, 10, 11, 12, 13, 14, 15, 16], [0, 1, 2, 3, 4, 5, 6, 7, 8, 9, 10, 11, 12, 13, 14, 15, 16, 17], [0, 1, 2, 3, 4, 5, 6, 7, 8, 9, 10, 11, 12, 13, 14, 15, 16, 17], [0, 1, 2, 3, 4, 5, 6, 7, 8, 9, 10, 11, 12, 13, 14, 15, 16, 17, 18, 19], [0, 1, 2, 3, 4, 5, 6, 7, 8, 9, 10, 11, 12, 13, 14, 15, 16, 17, 18, 19, 20], [0, 1, 2, 3, 4, 5, 6, 7, 8, 9, 10, 11, 12, 13, 14, 15, 16, 17, 18, 19, 20, 21], [0, 1, 2, 3, 4, 5, 6, 7, 8, 9, 10, 11, 12, 13, 14, 15, 16, 17], [0, 1, 2, 3, 4, 5, 6, 7, 8, 9, 10, 11, 12, 13, 14, 15, 16, 17], [0, 1, 2, 3, 4, 5, 6, 7, 8, 9, 10, 11, 12, 13, 14, 15, 16, 17, 23, 24], [0, 1, 2, 3, 4, 5, 6, 7, 8, 9, 10, 11, 12, 13, 14, 15, 16, 17, 23, 24, 25], [0, 1, 2, 3, 4, 5, 6, 7, 8, 9, 10, 11, 12, 13, 14, 15, 16, 17, 23, 24, 25, 26], [0, 1, 2, 3, 4, 5, 6, 7, 8, 9, 10, 11, 12, 13, 14, 15, 16, 17, 18, 19, 20, 21, 22, 23, 24, 25, 26, 27], [0, 1, 2, 3, 4, 5, 6, 7, 8, 9, 10, 11, 12, 13, 14, 15, 16, 17, 18, 19, 20, 21, 22, 23, 24, 25, 26, 27, 28], [0, 1, 2, 3, 4, 5, 6, 7, 8, 9, 10, 11, 12, 13, 14, 15, 16, 17, 18, 19, 20, 21, 22, 23, 24, 25, 26, 27, 28, 29], [0, 1, 2, 3, 4, 5, 6, 7, 8, 9, 10, 11, 12, 13, 14, 15, 16, 17, 18, 19, 20, 21, 22, 23, 24, 25, 26, 27, 28, 29, 30], [0, 1, 2, 3, 4, 5, 6, 7, 8, 9, 10, 11, 12, 13, 14, 15, 16, 17, 18, 19, 20, 21, 22, 23, 24, 25, 26, 27, 28, 29, 30], [0, 1, 2, 3, 4, 5, 6, 7, 8, 9, 10, 11, 12, 13, 14, 15, 16, 17, 18, 19, 20, 21, 22, 23, 24, 25, 26, 27, 28, 29, 30, 31, 32], [0, 1, 2, 3, 4, 5, 6, 7, 8, 9, 10, 11, 12, 13, 14, 15, 16, 17, 18, 19, 20, 21, 22, 23, 24, 25, 26, 27, 28, 29, 30, 31, 32, 33], [0, 1, 2, 3, 4, 5, 6, 7, 8, 9, 10, 11, 12, 13, 14, 15, 16, 17, 18, 19, 20, 21, 22, 23, 24, 25, 26, 27, 28, 29, 30, 31, 32, 33, 34], [0, 1, 2, 3, 4, 5, 6, 7, 8, 9, 10, 11, 12, 13, 14, 15, 16, 17, 18, 19, 20, 21, 22, 23, 24, 25, 26, 27, 28, 29, 30], [0, 1, 2, 3, 4, 5, 6, 7, 8, 9, 10, 11, 12, 13, 14, 15, 16, 17, 18, 19, 20, 21, 22, 23, 24, 25, 26, 27, 28, 29, 30], [0, 1, 2, 3, 4, 5, 6, 7, 8, 9, 10, 11, 12, 13, 14, 15, 16, 17, 18, 19, 20, 21, 22, 23, 24, 25, 26, 27, 28, 29, 30, 36, 37], [0, 1, 2, 3, 4, 5, 6, 7, 8, 9, 10, 11, 12, 13, 14, 15, 16, 17, 18, 19, 20, 21, 22, 23, 24, 25, 26, 27, 28, 29, 30, 36, 37, 38], [0, 1, 2, 3, 4, 5, 6, 7, 8, 9, 10, 11, 12, 13, 14, 15, 16, 17, 18, 19, 20, 21, 22, 23, 24, 25, 26, 27, 28, 29, 30, 36, 37, 38, 39], [0, 1, 2, 3, 4, 5, 6, 7, 8, 9, 10, 11, 12, 13, 14, 15, 16, 17, 18, 19, 20, 21, 22, 23, 24, 25, 26, 27, 28, 29, 30, 31, 32, 33, 34, 35, 36, 37, 38, 39, 40], [0, 1, 2, 3, 4, 5, 6, 7, 8, 9, 10, 11, 12, 13, 14, 15, 16, 17, 18, 19, 20, 21, 22, 23, 24, 25, 26, 27, 28, 29, 30, 31, 32, 33, 34, 35, 36, 37, 38, 39, 40, 41], [0, 1, 2, 3, 4, 5, 6, 7, 8, 9, 10, 11, 12, 13, 14, 15, 16, 17, 18, 19, 20, 21, 22, 23, 24, 25, 26, 27, 28, 29, 30, 31, 32, 33, 34, 35, 36, 37, 38, 39, 40, 41, 42], [0, 1, 2, 3, 4, 5, 6, 7, 8, 9, 10, 11, 12, 13, 14, 15, 16, 17, 18, 19, 20, 21, 22, 23, 24, 25, 26, 27, 28, 29, 30, 31, 32, 33, 34, 35, 36, 37, 38, 39, 40, 41, 42, 43], [0, 1, 2, 3, 4, 5, 6, 7, 8, 9, 10, 11, 12, 13, 14, 15, 16, 17, 18, 19, 20, 21, 22, 23, 24, 25, 26, 27, 28, 29, 30, 31, 32, 33, 34, 35, 36, 37, 38, 39, 40, 41, 42, 43], [0, 1, 2, 3, 4, 5, 6, 7, 8, 9, 10, 11, 12, 13, 14, 15, 16, 17, 18, 19, 20, 21, 22, 23, 24, 25, 26, 27, 28, 29, 30, 31, 32, 33, 34, 35, 36, 37, 38, 39, 40, 41, 42, 43, 44, 45], [0, 1, 2, 3, 4, 5, 6, 7, 8, 9, 10, 11, 12, 13, 14, 15, 16, 17, 18, 19, 20, 21, 22, 23, 24, 25, 26, 27, 28, 29, 30, 31, 32, 33, 34, 35, 36, 37, 38, 39, 40, 41, 42, 43, 44, 45, 46], [0, 1, 2, 3, 4, 5, 6, 7, 8, 9, 10, 11, 12, 13, 14, 15, 16, 17, 18, 19, 20, 21, 22, 23, 24, 25, 26, 27, 28, 29, 30, 31, 32, 33, 34, 35, 36, 37, 38, 39, 40, 41, 42, 43, 44, 45, 46, 47], [0, 1, 2, 3, 4, 5, 6, 7, 8, 9, 10, 11, 12, 13, 14, 15, 16, 17, 18, 19, 20, 21, 22, 23, 24, 25, 26, 27, 28, 29, 30, 31, 32, 33, 34, 35, 36, 37, 38, 39, 40, 41, 42, 43], [0, 1, 2, 3, 4, 5, 6, 7, 8, 9, 10, 11, 12, 13, 14, 15, 16, 17, 18, 19, 20, 21, 22, 23, 24, 25, 26, 27, 28, 29, 30, 31, 32, 33, 34, 35, 36, 37, 38, 39, 40, 41, 42, 43], [0, 1, 2, 3, 4, 5, 6, 7, 8, 9, 10, 11, 12, 13, 14, 15, 16, 17, 18, 19, 20, 21, 22, 23, 24, 25, 26, 27, 28, 29, 30, 31, 32, 33, 34, 35, 36, 37, 38, 39, 40, 41, 42, 43, 49, 50], [0, 1, 2, 3, 4, 5, 6, 7, 8, 9, 10, 11, 12, 13, 14, 15, 16, 17, 18, 19, 20, 21, 22, 23, 24, 25, 26, 27, 28, 29, 30, 31, 32, 33, 34, 35, 36, 37, 38, 39, 40, 41, 42, 43, 49, 50, 51], [0, 1, 2, 3, 4, 5, 6, 7, 8, 9, 10, 11, 12, 13, 14, 15, 16, 17, 18, 19, 20, 21, 22, 23, 24, 25, 26, 27, 28, 29, 30, 31, 32, 33, 34, 35, 36, 37, 38, 39, 40, 41, 42, 43, 49, 50, 51, 52], [0, 1, 2, 3, 4, 5, 6, 7, 8, 9, 10, 11, 12, 13, 14, 15, 16, 17, 18, 19, 20, 21, 22, 23, 24, 25, 26, 27, 28, 29, 30, 31, 32, 33, 34, 35, 36, 37, 38, 39, 40, 41, 42, 43, 44, 45, 46, 47, 48, 49, 50, 51, 52, 53], [0, 1, 2, 3, 4, 5, 6, 7, 8, 9, 10, 11, 12, 13, 14, 15, 16, 17, 18, 19, 20, 21, 22, 23, 24, 25, 26, 27, 28, 29, 30, 31, 32, 33, 34, 35, 36, 37, 38, 39, 40, 41, 42, 43, 44, 45, 46, 47, 48, 49, 50, 51, 52, 53, 54]] = some d5_30 := by kernel_rfl
def d6_15 : List DP := [⟨0, ⟨some 60, .move (.tmp 6), 22, none, true⟩, .q, []⟩,
  ⟨1, ⟨some 61, .move (.tmp 10), 3, none, true⟩, .q, []⟩,
  ⟨2, ⟨some 62, .indexAddr 22 (.tmp 60) (.tmp 61), 0, none, true⟩, .q, []⟩,
  ⟨3, ⟨some 63, .load 24 (.tmp 62), 24, none, true⟩, .h, []⟩,
  ⟨4, ⟨some 64, .load 24 (.tmp 5), 24, none, true⟩, .h, []⟩,
  ⟨5, ⟨some 65, .call (⟨.value (.func 17), #[.tmp 63, .tmp 64], #[24, 24]⟩), 4, none, true⟩, .e, []⟩,
  ⟨6, ⟨some 66, .move (.tmp 65), 4, none, true⟩, .q, []⟩,
  ⟨7, ⟨some 67, .load 24 (.tmp 5), 24, some (some 66), false⟩, .h, []⟩,
  ⟨8, ⟨some 68, .move (.tmp 6), 22, some (some 66), false⟩, .q, []⟩,
  ⟨9, ⟨some 69, .move (.tmp 10), 3, some (some 66), false⟩, .q, []⟩,
  ⟨10, ⟨some 70, .indexAddr 22 (.tmp 68) (.tmp 69), 0, some (some 66), false⟩, .q, []⟩,
  ⟨11, ⟨some 71, .load 24 (.tmp 70), 24, some (some 66), false⟩, .h, []⟩,
  ⟨12, ⟨some 72, .call (⟨.value (.func 17), #[.tmp 67, .tmp 71], #[24, 24]⟩), 4, some (some 66), false⟩, .e, []⟩,
  ⟨13, ⟨some 73, .pick (.tmp 66) (.const (.bool true)) (.tmp 72), 4, none, true⟩, .q, []⟩]
theorem dc6_15 : drawC ap (drawOf T.c6 15).toList [0, 1, 2, 3, 4, 5, 6, 7, 8, 9, 10, 11, 12, 13] [[], [], [0, 1], [0, 1, 2], [], [0, 1, 2, 3, 4], [0, 1, 2, 3, 4, 5], [0, 1, 2, 3, 4, 5, 6], [0, 1, 2, 3, 4, 5, 6], [0, 1, 2, 3, 4, 5, 6], [0, 1, 2, 3, 4, 5, 6, 8, 9], [0, 1, 2, 3, 4, 5, 6, 8, 9, 10], [0, 1, 2, 3, 4, 5, 6, 7, 8, 9, 10, 11], [0, 1, 2, 3, 4, 5, 6, 7, 8, 9, 10, 11, 12]] = some d6_15 := by kernel_rfl
def d6_17 : List DP := [⟨0, ⟨some 74, .move (.tmp 6), 22, none, true⟩, .q, []⟩,
  ⟨1, ⟨some 75, .call (⟨.builtin .len, #[.tmp 74], #[22]⟩), 3, none, true⟩, .q, []⟩,
  ⟨2, ⟨some 76, .binOp .eql 3 (.tmp 75) (.const (.int .i64 32)) 3, 4, none, true⟩, .q, []⟩,
  ⟨3, ⟨some 77, .move (.tmp 76), 4, none, true⟩, .q, []⟩,
  ⟨4, ⟨some 78, .buildSlice 22 0 #[], 22, some (some 77), false⟩, .a, []⟩,
  ⟨5, ⟨some 79, .move (.tmp 6), 22, some (some 77), false⟩, .q, []⟩,
  ⟨7, ⟨some 81, .load 24 (.tmp 5), 24, some (some 77), false⟩, .h, [1]⟩,
  ⟨6, ⟨some 80, .call (⟨.builtin .append, #[.tmp 78, .tmp 79], #[22, 22]⟩), 22, some (some 77), false⟩, .e, []⟩,
  ⟨8, ⟨some 82, .buildSlice 22 1 #[(0, .tmp 81)], 22, some (some 77), false⟩, .a, []⟩,
  ⟨9, ⟨some 83, .call (⟨.builtin .append, #[.tmp 80, .tmp 82], #[22, 22]⟩), 22, some (some 77), false⟩, .e, []⟩,
  ⟨10, ⟨some 84, .call (⟨.value (.func 16), #[.tmp 83], #[22]⟩), 4, some (some 77), false⟩, .e, []⟩,
  ⟨11, ⟨some 85, .unOp .not 4 (.tmp 84), 4, some (some 77), false⟩, .q, []⟩,
  ⟨12, ⟨some 86, .pick (.tmp 77) (.const (.bool true)) (.tmp 85), 4, none, true⟩, .q, []⟩,
  ⟨13, ⟨some 2, .assign (.tmp 86), 4, none, true⟩, .q, []⟩]
theorem dc6_17 : drawC ap (drawOf T.c6 17).toList [0, 1, 2, 3, 4, 5, 7, 6, 8, 9, 10, 11, 12, 13] [[], [0], [0, 1], [0, 1, 2], [0, 1, 2, 3], [0, 1, 2, 3], [0, 1, 2, 3, 4, 5], [0, 1, 2, 3], [0, 1, 2, 3, 7], [0, 1, 2, 3, 4, 5, 6, 7, 8], [0, 1, 2, 3, 4, 5, 6, 7, 8, 9], [0, 1, 2, 3, 4, 5, 6, 7, 8, 9, 10], [0, 1, 2, 3, 4, 5, 6, 7, 8, 9, 10, 11], [0, 1, 2, 3, 4, 5, 6, 7, 8, 9, 10, 11, 12]] = some d6_17 := by kernel_rfl
def d7_6 : List DP := [⟨2, ⟨some 8, .alloc 24, 0, none, true⟩, .a, []⟩,
  ⟨3, ⟨some 9, .alloc 24, 0, none, true⟩, .a, []⟩,
  ⟨0, ⟨some 43, .load 24 (.tmp 7), 24, none, true⟩, .h, []⟩,
  ⟨1, ⟨some 44, .load 24 (.tmp 7), 24, none, true⟩, .h, [1]⟩,
  ⟨4, ⟨none, .store 24 (.tmp 8) (.tmp 43), 0, none, true⟩, .e, []⟩,
  ⟨5, ⟨none, .store 24 (.tmp 9) (.tmp 44), 0, none, true⟩, .e, []⟩]
theorem dc7_6 : drawC ap (drawOf T.c7 6).toList [2, 3, 0, 1, 4, 5] [[], [], [], [], [0, 2, 3], [0, 1, 2, 3, 4]] = some d7_6 := by kernel_rfl
def d9_3 : List DP := [⟨0, ⟨some 31, .move (.tmp 10), 35, none, true⟩, .q, []⟩,
  ⟨1, ⟨some 32, .move (.tmp 14), 35, none, true⟩, .q, []⟩,
  ⟨2, ⟨some 33, .binOp .eql 35 (.tmp 31) (.tmp 32) 35, 4, none, true⟩, .q, []⟩,
  ⟨3, ⟨some 34, .move (.tmp 33), 4, none, true⟩, .q, []⟩,
  ⟨4, ⟨some 35, .move (.tmp 9), 2, some (some 34), true⟩, .q, []⟩,
  ⟨5, ⟨some 36, .move (.tmp 13), 2, some (some 34), true⟩, .q, []⟩,
  ⟨6, ⟨some 37, .binOp .eql 2 (.tmp 35) (.tmp 36) 2, 4, some (some 34), true⟩, .q, []⟩,
  ⟨7, ⟨some 38, .pick (.tmp 34) (.tmp 37) (.const (.bool false)), 4, none, true⟩, .q, []⟩,
  ⟨8, ⟨some 39, .move (.tmp 38), 4, none, true⟩, .q, []⟩,
  ⟨9, ⟨some 40, .move (.tmp 7), 22, some (some 39), true⟩, .q, []⟩,
  ⟨10, ⟨some 41, .move (.tmp 11), 22, some (some 39), true⟩, .q, []⟩,
  ⟨11, ⟨some 42, .call (⟨.value (.func 18), #[.tmp 40, .tmp 41], #[22, 22]⟩), 4, some (some 39), true⟩, .e, []⟩,
  ⟨12, ⟨some 43, .pick (.tmp 39) (.tmp 42) (.const (.bool false)), 4, none, true⟩, .q, []⟩,
  ⟨13, ⟨some 44, .move (.tmp 43), 4, none, true⟩, .q, []⟩,
  ⟨14, ⟨some 45, .move (.tmp 8), 34, some (some 44), true⟩, .q, []⟩,
  ⟨15, ⟨some 46, .move (.tmp 12), 34, some (some 44), true⟩, .q, []⟩,
  ⟨16, ⟨some 47, .call (⟨.value (.func 19), #[.tmp 45, .tmp 46], #[34, 34]⟩), 4, some (some 44), true⟩, .e, []⟩,
  ⟨17, ⟨some 48, .pick (.tmp 44) (.tmp 47) (.const (.bool false)), 4, none, true⟩, .q, []⟩,
  ⟨18, ⟨some 49, .move (.tmp 48), 4, none, true⟩, .q, []⟩,
  ⟨19, ⟨some 50, .load 24 (.tmp 4), 24, some (some 49), true⟩, .h, []⟩,
  ⟨20, ⟨some 51, .load 24 (.tmp 5), 24, some (some 49), true⟩, .h, []⟩,
  ⟨22, ⟨some 53, .load 24 (.tmp 4), 24, some (some 49), true⟩, .h, [3]⟩,
  ⟨23, ⟨some 54, .load 24 (.tmp 5), 24, some (some 49), true⟩, .h, [3]⟩,
  ⟨21, ⟨some 52, .call (⟨.value (.func 17), #[.tmp 50, .tmp 51], #[24, 24]⟩), 4, some (some 49), true⟩, .e, []⟩,
  ⟨24, ⟨some 55, .call (⟨.value (.func 22), #[.tmp 53, .tmp 54], #[24, 24]⟩), 4, some (some 49), true⟩, .e, []⟩,
  ⟨25, ⟨some 56, .binOp .eql 4 (.tmp 52) (.tmp 55) 4, 4, some (some 49), true⟩, .q, []⟩,
  ⟨26, ⟨some 57, .pick (.tmp 49) (.tmp 56) (.const (.bool false)), 4, none, true⟩, .q, []⟩,
  ⟨27, ⟨some 58, .move (.tmp 57), 4, none, true⟩, .q, []⟩,
  ⟨28, ⟨some 59, .move (.tmp 0), 22, some (some 58), true⟩, .q, []⟩,
  ⟨30, ⟨some 61, .move (.tmp 0), 22, some (some 58), true⟩, .q, []⟩,
  ⟨29, ⟨some 60, .call (⟨.value (.func 16), #[.tmp 59], #[22]⟩), 4, some (some 58), true⟩, .e, []⟩,
  ⟨31, ⟨some 62, .call (⟨.value (.func 23), #[.tmp 61], #[22]⟩), 4, some (some 58), true⟩, .e, []⟩,
  ⟨32, ⟨some 63, .binOp .eql 4 (.tmp 60) (.tmp 62) 4, 4, some (some 58), true⟩, .q, []⟩,
  ⟨33, ⟨some 64, .pick (.tmp 58) (.tmp 63) (.const (.bool false)), 4, none, true⟩, .q, []⟩,
  ⟨34, ⟨some 6, .assign (.tmp 64), 4, none, true⟩, .q, []⟩]
theorem dc9_3 : drawC ap (drawOf T.c9 3).toList [0, 1, 2, 3, 4, 5, 6, 7, 8, 9, 10, 11, 12, 13, 14, 15, 16, 17, 18, 19, 20, 22, 23, 21, 24, 25, 26, 27, 28, 30, 29, 31, 32, 33, 34] [[], [], [0, 1], [0, 1, 2], [0, 1, 2, 3], [0, 1, 2, 3], [0, 1, 2, 3, 4, 5], [0, 1, 2, 3, 4, 5, 6], [0, 1, 2, 3, 4, 5, 6, 7], [0, 1, 2, 3, 4, 5, 6, 7, 8], [0, 1, 2, 3, 4, 5, 6, 7, 8], [0, 1, 2, 3, 4, 5, 6, 7, 8, 9, 10], [0, 1, 2, 3, 4, 5, 6, 7, 8, 9, 10, 11], [0, 1, 2, 3, 4, 5, 6, 7, 8, 9, 10, 11, 12], [0, 1, 2, 3, 4, 5, 6, 7, 8, 9, 10, 11, 12, 13], [0, 1, 2, 3, 4, 5, 6, 7, 8, 9, 10, 11, 12, 13], [0, 1, 2, 3, 4, 5, 6, 7, 8, 9, 10, 11, 12, 13, 14, 15], [0, 1, 2, 3, 4, 5, 6, 7, 8, 9, 10, 11, 12, 13, 14, 15, 16], [0, 1, 2, 3, 4, 5, 6, 7, 8, 9, 10, 11, 12, 13, 14, 15, 16, 17], [0, 1, 2, 3, 4, 5, 6, 7, 8, 9, 10, 11, 12, 13, 14, 15, 16, 17, 18], [0, 1, 2, 3, 4, 5, 6, 7, 8, 9, 10, 11, 12, 13, 14, 15, 16, 17, 18], [0, 1, 2, 3, 4, 5, 6, 7, 8, 9, 10, 11, 12, 13, 14, 15, 16, 17, 18, 19, 20], [0, 1, 2, 3, 4, 5, 6, 7, 8, 9, 10, 11, 12, 13, 14, 15, 16, 17, 18], [0, 1, 2, 3, 4, 5, 6, 7, 8, 9, 10, 11, 12, 13, 14, 15, 16, 17, 18], [0, 1, 2, 3, 4, 5, 6, 7, 8, 9, 10, 11, 12, 13, 14, 15, 16, 17, 18, 19, 20, 21, 22, 23], [0, 1, 2, 3, 4, 5, 6, 7, 8, 9, 10, 11, 12, 13, 14, 15, 16, 17, 18, 19, 20, 21, 22, 23, 24], [0, 1, 2, 3, 4, 5, 6, 7, 8, 9, 10, 11, 12, 13, 14, 15, 16, 17, 18, 19, 20, 21, 22, 23, 24, 25], [0, 1, 2, 3, 4, 5, 6, 7, 8, 9, 10, 11, 12, 13, 14, 15, 16, 17, 18, 19, 20, 21, 22, 23, 24, 25, 26], [0, 1, 2, 3, 4, 5, 6, 7, 8, 9, 10, 11, 12, 13, 14, 15, 16, 17, 18, 19, 20, 21, 22, 23, 24, 25, 26, 27], [0, 1, 2, 3, 4, 5, 6, 7, 8, 9, 10, 11, 12, 13, 14, 15, 16, 17, 18, 19, 20, 21, 22, 23, 24, 25, 26, 27, 28], [0, 1, 2, 3, 4, 5, 6, 7, 8, 9, 10, 11, 12, 13, 14, 15, 16, 17, 18, 19, 20, 21, 22, 23, 24, 25, 26, 27], [0, 1, 2, 3, 4, 5, 6, 7, 8, 9, 10, 11, 12, 13, 14, 15, 16, 17, 18, 19, 20, 21, 22, 23, 24, 25, 26, 27, 28, 29, 30], [0, 1, 2, 3, 4, 5, 6, 7, 8, 9, 10, 11, 12, 13, 14, 15, 16, 17, 18, 19, 20, 21, 22, 23, 24, 25, 26, 27, 28, 29, 30, 31], [0, 1, 2, 3, 4, 5, 6, 7, 8, 9, 10, 11, 12, 13, 14, 15, 16, 17, 18, 19, 20, 21, 22, 23, 24, 25, 26, 27, 28, 29, 30, 31, 32], [0, 1, 2, 3, 4, 5, 6, 7, 8, 9, 10, 11, 12, 13, 14, 15, 16, 17, 18, 19, 20, 21, 22, 23, 24, 25, 26, 27, 28, 29, 30, 31, 32, 33]] = some d9_3 := by kernel_rfl
def d14_12 : List DP := [⟨0, ⟨some 68, .fieldAddr 24 (.tmp 11) 1, 0, none, true⟩, .q, []⟩,
  ⟨1, ⟨some 69, .load 3 (.tmp 68), 3, none, true⟩, .h, []⟩,
  ⟨2, ⟨some 70, .fieldAddr 24 (.tmp 3) 1, 0, none, true⟩, .q, []⟩,
  ⟨3, ⟨some 71, .load 3 (.tmp 70), 3, none, true⟩, .h, [1]⟩,
  ⟨4, ⟨some 72, .fieldAddr 40 (.tmp 13) 0, 0, none, true⟩, .q, []⟩,
  ⟨5, ⟨none, .store 3 (.tmp 72) (.tmp 69), 0, none, true⟩, .e, []⟩,
  ⟨6, ⟨some 73, .fieldAddr 40 (.tmp 13) 1, 0, none, true⟩, .q, []⟩,
  ⟨7, ⟨none, .store 3 (.tmp 73) (.tmp 71), 0, none, true⟩, .e, []⟩]
theorem dc14_12 : drawC ap (drawOf T.c14 12).toList [0, 1, 2, 3, 4, 5, 6, 7] [[], [0], [], [2], [0, 1], [0, 1, 4], [0, 1, 2, 3, 4, 5], [0, 1, 2, 3, 4, 5, 6]] = some d14_12 := by kernel_rfl
def d14_13 : List DP := [⟨0, ⟨some 74, .load 34 (.tmp 10), 34, none, true⟩, .h, [0]⟩,
  ⟨1, ⟨some 75, .load 40 (.tmp 13), 40, none, true⟩, .h, [0]⟩,
  ⟨2, ⟨some 76, .buildSlice 34 1 #[(0, .tmp 75)], 34, none, true⟩, .a, []⟩,
  ⟨4, ⟨some 78, .load 2 (.tmp 9), 2, none, true⟩, .h, [1, 2]⟩,
  ⟨5, ⟨some 79, .move (.tmp 12), 2, none, true⟩, .q, []⟩,
  ⟨6, ⟨some 80, .binOp .sub 2 (.tmp 78) (.tmp 79) 2, 2, none, true⟩, .q, []⟩,
  ⟨3, ⟨some 77, .call (⟨.builtin .append, #[.tmp 74, .tmp 76], #[34, 34]⟩), 34, none, true⟩, .e, []⟩,
  ⟨7, ⟨none, .store 34 (.tmp 10) (.tmp 77), 0, none, true⟩, .e, []⟩,
  ⟨8, ⟨none, .store 2 (.tmp 9) (.tmp 80), 0, none, true⟩, .e, []⟩]
theorem dc14_13 : drawC ap (drawOf T.c14 13).toList [0, 1, 2, 4, 5, 6, 3, 7, 8] [[], [], [1], [0, 1, 2], [], [], [4, 5], [0, 1, 2, 3], [0, 1, 2, 3, 4, 5, 6, 7]] = some d14_13 := by kernel_rfl
def d14_17 : List DP := [⟨0, ⟨some 86, .load 22 (.tmp 8), 22, none, true⟩, .h, []⟩,
  ⟨1, ⟨some 87, .move (.tmp 14), 3, none, true⟩, .q, []⟩,
  ⟨2, ⟨some 88, .indexAddr 22 (.tmp 86) (.tmp 87), 0, none, true⟩, .q, []⟩,
  ⟨3, ⟨some 89, .fieldAddr 24 (.tmp 88) 0, 0, none, true⟩, .q, []⟩,
  ⟨4, ⟨some 90, .load 2 (.tmp 89), 2, none, true⟩, .h, []⟩,
  ⟨5, ⟨some 91, .fieldAddr 24 (.tmp 11) 0, 0, none, true⟩, .q, []⟩,
  ⟨6, ⟨some 92, .load 2 (.tmp 91), 2, none, true⟩, .h, []⟩,
  ⟨7, ⟨some 93, .binOp .eql 2 (.tmp 90) (.tmp 92) 2, 4, none, true⟩, .q, []⟩]
theorem dc14_17 : drawC ap (drawOf T.c14 17).toList [0, 1, 2, 3, 4, 5, 6, 7] [[], [], [0, 1], [0, 1, 2], [0, 1, 2, 3], [], [5], [0, 1, 2, 3, 4, 5, 6]] = some d14_17 := by kernel_rfl
def d14_3 : List DP := [⟨0, ⟨some 23, .move (.tmp 0), 22, none, true⟩, .q, []⟩,
  ⟨2, ⟨some 25, .fieldAddr 24 (.tmp 3) 4, 0, none, true⟩, .q, []⟩,
  ⟨3, ⟨some 26, .load 2 (.tmp 25), 2, none, true⟩, .h, [1, 2]⟩,
  ⟨1, ⟨some 24, .call (⟨.value (.func 26), #[.tmp 23], #[22]⟩), 22, none, true⟩, .e, []⟩,
  ⟨4, ⟨some 8, .alloc 22, 0, none, true⟩, .a, []⟩,
  ⟨5, ⟨some 9, .alloc 2, 0, none, true⟩, .a, []⟩,
  ⟨6, ⟨none, .store 22 (.tmp 8) (.tmp 24), 0, none, true⟩, .e, []⟩,
  ⟨7, ⟨none, .store 2 (.tmp 9) (.tmp 26), 0, none, true⟩, .e, []⟩]
theorem dc14_3 : drawC ap (drawOf T.c14 3).toList [0, 2, 3, 1, 4, 5, 6, 7] [[], [0], [], [2], [], [], [0, 1, 4, 5], [0, 1, 2, 3, 4, 5, 6]] = some d14_3 := by kernel_rfl
def d14_20 : List DP := [⟨0, ⟨some 104, .load 22 (.tmp 8), 22, none, true⟩, .h, []⟩,
  ⟨2, ⟨some 106, .load 34 (.tmp 10), 34, none, true⟩, .h, [1]⟩,
  ⟨3, ⟨some 107, .load 2 (.tmp 9), 2, none, true⟩, .h, [1]⟩,
  ⟨1, ⟨some 105, .call (⟨.value (.func 29), #[.tmp 104, .func 30], #[22, 50]⟩), 22, none, true⟩, .e, []⟩,
  ⟨4, ⟨some 4, .assign (.tmp 105), 22, none, true⟩, .q, []⟩,
  ⟨5, ⟨some 5, .assign (.tmp 106), 34, none, true⟩, .q, []⟩,
  ⟨6, ⟨some 6, .assign (.tmp 107), 2, none, true⟩, .q, []⟩,
  ⟨7, ⟨some 7, .assign (.const (.int .i64 0)), 35, none, true⟩, .q, []⟩]
theorem dc14_20 : drawC ap (drawOf T.c14 20).toList [0, 2, 3, 1, 4, 5, 6, 7] [[], [0], [], [], [0, 1], [0, 1, 2, 4], [0, 1, 2, 3, 4, 5], [0, 1, 2, 3, 4, 5, 6]] = some d14_20 := by kernel_rfl
def d15_4 : List DP := [⟨0, ⟨some 12, .load 24 (.tmp 4), 24, none, true⟩, .h, []⟩,
  ⟨1, ⟨some 13, .call (⟨.value (.func 25), #[.tmp 12], #[24]⟩), 4, none, true⟩, .e, []⟩,
  ⟨2, ⟨some 14, .unOp .not 4 (.tmp 13), 4, none, true⟩, .q, []⟩,
  ⟨3, ⟨some 15, .move (.tmp 14), 4, none, true⟩, .q, []⟩,
  ⟨4, ⟨some 16, .move (.tmp 3), 3, some (some 15), false⟩, .q, []⟩,
  ⟨5, ⟨some 17, .binOp .gtr 3 (.tmp 16) (.const (.int .i64 0)) 3, 4, some (some 15), false⟩, .q, []⟩,
  ⟨6, ⟨some 18, .move (.tmp 17), 4, some (some 15), false⟩, .q, []⟩,
  ⟨7, ⟨some 19, .move (.tmp 0), 22, some (some 18), true⟩, .q, []⟩,
  ⟨8, ⟨some 20, .move (.tmp 3), 3, some (some 18), true⟩, .q, []⟩,
  ⟨9, ⟨some 21, .binOp .sub 3 (.tmp 20) (.const (.int .i64 1)) 3, 3, some (some 18), true⟩, .q, []⟩,
  ⟨10, ⟨some 22, .indexAddr 22 (.tmp 19) (.tmp 21), 0, some (some 18), true⟩, .q, []⟩,
  ⟨11, ⟨some 23, .fieldAddr 24 (.tmp 22) 0, 0, some (some 18), true⟩, .q, []⟩,
  ⟨12, ⟨some 24, .load 2 (.tmp 23), 2, some (some 18), true⟩, .h, []⟩,
  ⟨13, ⟨some 25, .fieldAddr 24 (.tmp 4) 0, 0, some (some 18), true⟩, .q, []⟩,
  ⟨14, ⟨some 26, .load 2 (.tmp 25), 2, some (some 18), true⟩, .h, []⟩,
  ⟨15, ⟨some 27, .binOp .geq 2 (.tmp 24) (.tmp 26) 2, 4, some (some 18), true⟩, .q, []⟩,
  ⟨16, ⟨some 28, .pick (.tmp 18) (.tmp 27) (.const (.bool false)), 4, some (some 15), false⟩, .q, []⟩,
  ⟨17, ⟨some 29, .pick (.tmp 15) (.const (.bool true)) (.tmp 28), 4, none, true⟩, .q, []⟩]
theorem dc15_4 : drawC ap (drawOf T.c15 4).toList [0, 1, 2, 3, 4, 5, 6, 7, 8, 9, 10, 11, 12, 13, 14, 15, 16, 17] [[], [0], [0, 1], [0, 1, 2], [0, 1, 2, 3], [0, 1, 2, 3, 4], [0, 1, 2, 3, 4, 5], [0, 1, 2, 3, 4, 5, 6], [0, 1, 2, 3, 4, 5, 6], [0, 1, 2, 3, 4, 5, 6, 8], [0, 1, 2, 3, 4, 5, 6, 7, 8, 9], [0, 1, 2, 3, 4, 5, 6, 7, 8, 9, 10], [0, 1, 2, 3, 4, 5, 6, 7, 8, 9, 10, 11], [0, 1, 2, 3, 4, 5, 6], [0, 1, 2, 3, 4, 5, 6, 13], [0, 1, 2, 3, 4, 5, 6, 7, 8, 9, 10, 11, 12, 13, 14], [0, 1, 2, 3, 4, 5, 6, 7, 8, 9, 10, 11, 12, 13, 14, 15], [0, 1, 2, 3, 4, 5, 6, 7, 8, 9, 10, 11, 12, 13, 14, 15, 16]] = some d15_4 := by kernel_rfl
def d18_6 : List DP := [⟨0, ⟨some 17, .move (.tmp 0), 22, none, true⟩, .q, []⟩,
  ⟨1, ⟨some 18, .move (.tmp 5), 3, none, true⟩, .q, []⟩,
  ⟨2, ⟨some 19, .indexAddr 22 (.tmp 17) (.tmp 18), 0, none, true⟩, .q, []⟩,
  ⟨3, ⟨some 20, .load 24 (.tmp 19), 24, none, true⟩, .h, []⟩,
  ⟨4, ⟨some 21, .move (.tmp 1), 22, none, true⟩, .q, []⟩,
  ⟨5, ⟨some 22, .move (.tmp 5), 3, none, true⟩, .q, []⟩,
  ⟨6, ⟨some 23, .indexAddr 22 (.tmp 21) (.tmp 22), 0, none, true⟩, .q, []⟩,
  ⟨7, ⟨some 24, .load 24 (.tmp 23), 24, none, true⟩, .h, []⟩,
  ⟨8, ⟨some 25, .binOp .neq 24 (.tmp 20) (.tmp 24) 24, 4, none, true⟩, .q, []⟩]
theorem dc18_6 : drawC ap (drawOf T.c18 6).toList [0, 1, 2, 3, 4, 5, 6, 7, 8] [[], [], [0, 1], [0, 1, 2], [], [], [4, 5], [4, 5, 6], [0, 1, 2, 3, 4, 5, 6, 7]] = some d18_6 := by kernel_rfl
def d19_6 : List DP := [⟨0, ⟨some 17, .move (.tmp 0), 34, none, true⟩, .q, []⟩,
  ⟨1, ⟨some 18, .move (.tmp 5), 3, none, true⟩, .q, []⟩,
  ⟨2, ⟨some 19, .indexAddr 34 (.tmp 17) (.tmp 18), 0, none, true⟩, .q, []⟩,
  ⟨3, ⟨some 20, .load 40 (.tmp 19), 40, none, true⟩, .h, []⟩,
  ⟨4, ⟨some 21, .move (.tmp 1), 34, none, true⟩, .q, []⟩,
  ⟨5, ⟨some 22, .move (.tmp 5), 3, none, true⟩, .q, []⟩,
  ⟨6, ⟨some 23, .indexAddr 34 (.tmp 21) (.tmp 22), 0, none, true⟩, .q, []⟩,
  ⟨7, ⟨some 24, .load 40 (.tmp 23), 40, none, true⟩, .h, []⟩,
  ⟨8, ⟨some 25, .binOp .neq 40 (.tmp 20) (.tmp 24) 40, 4, none, true⟩, .q, []⟩]
theorem dc19_6 : drawC ap (drawOf T.c19 6).toList [0, 1, 2, 3, 4, 5, 6, 7, 8] [[], [], [0, 1], [0, 1, 2], [], [], [4, 5], [4, 5, 6], [0, 1, 2, 3, 4, 5, 6, 7]] = some d19_6 := by kernel_rfl
def d20_6 : List DP := [⟨0, ⟨some 14, .move (.tmp 5), 3, none, true⟩, .q, []⟩,
  ⟨1, ⟨some 15, .binOp .gtr 3 (.tmp 14) (.const (.int .i64 0)) 3, 4, none, true⟩, .q, []⟩,
  ⟨2, ⟨some 16, .move (.tmp 15), 4, none, true⟩, .q, []⟩,
  ⟨3, ⟨some 17, .move (.tmp 3), 34, some (some 16), true⟩, .q, []⟩,
  ⟨4, ⟨some 18, .move (.tmp 5), 3, some (some 16), true⟩, .q, []⟩,
  ⟨5, ⟨some 19, .binOp .sub 3 (.tmp 18) (.const (.int .i64 1)) 3, 3, some (some 16), true⟩, .q, []⟩,
  ⟨6, ⟨some 20, .indexAddr 34 (.tmp 17) (.tmp 19), 0, some (some 16), true⟩, .q, []⟩,
  ⟨7, ⟨some 21, .fieldAddr 40 (.tmp 20) 0, 0, some (some 16), true⟩, .q, []⟩,
  ⟨8, ⟨some 22, .load 3 (.tmp 21), 3, some (some 16), true⟩, .h, []⟩,
  ⟨9, ⟨some 23, .move (.tmp 0), 34, some (some 16), true⟩, .q, []⟩,
  ⟨10, ⟨some 24, .move (.tmp 4), 3, some (some 16), true⟩, .q, []⟩,
  ⟨11, ⟨some 25, .indexAddr 34 (.tmp 23) (.tmp 24), 0, some (some 16), true⟩, .q, []⟩,
  ⟨12, ⟨some 26, .fieldAddr 40 (.tmp 25) 0, 0, some (some 16), true⟩, .q, []⟩,
  ⟨13, ⟨some 27, .load 3 (.tmp 26), 3, some (some 16), true⟩, .h, []⟩,
  ⟨14, ⟨some 28, .binOp .eql 3 (.tmp 22) (.tmp 27) 3, 4, some (some 16), true⟩, .q, []⟩,
  ⟨15, ⟨some 29, .pick (.tmp 16) (.tmp 28) (.const (.bool false)), 4, none, true⟩, .q, []⟩,
  ⟨16, ⟨some 30, .move (.tmp 29), 4, none, true⟩, .q, []⟩,
  ⟨17, ⟨some 31, .move (.tmp 3), 34, some (some 30), true⟩, .q, []⟩,
  ⟨18, ⟨some 32, .move (.tmp 5), 3, some (some 30), true⟩, .q, []⟩,
  ⟨19, ⟨some 33, .binOp .sub 3 (.tmp 32) (.const (.int .i64 1)) 3, 3, some (some 30), true⟩, .q, []⟩,
  ⟨20, ⟨some 34, .indexAddr 34 (.tmp 31) (.tmp 33), 0, some (some 30), true⟩, .q, []⟩,
  ⟨21, ⟨some 35, .fieldAddr 40 (.tmp 34) 1, 0, some (some 30), true⟩, .q, []⟩,
  ⟨22, ⟨some 36, .load 3 (.tmp 35), 3, some (some 30), true⟩, .h, []⟩,
  ⟨23, ⟨some 37, .move (.tmp 0), 34, some (some 30), true⟩, .q, []⟩,
  ⟨24, ⟨some 38, .move (.tmp 4), 3, some (some 30), true⟩, .q, []⟩,
  ⟨25, ⟨some 39, .indexAddr 34 (.tmp 37) (.tmp 38), 0, some (some 30), true⟩, .q, []⟩,
  ⟨26, ⟨some 40, .fieldAddr 40 (.tmp 39) 1, 0, some (some 30), true⟩, .q, []⟩,
  ⟨27, ⟨some 41, .load 3 (.tmp 40), 3, some (some 30), true⟩, .h, []⟩,
  ⟨28, ⟨some 42, .binOp .eql 3 (.tmp 36) (.tmp 41) 3, 4, some (some 30), true⟩, .q, []⟩,
  ⟨29, ⟨some 43, .pick (.tmp 30) (.tmp 42) (.const (.bool false)), 4, none, true⟩, .q, []⟩,
  ⟨30, ⟨some 44, .move (.tmp 43), 4, none, true⟩, .q, []⟩,
  ⟨31, ⟨some 45, .move (.tmp 3), 34, some (some 44), true⟩, .q, []⟩,
  ⟨32, ⟨some 46, .move (.tmp 5), 3, some (some 44), true⟩, .q, []⟩,
  ⟨33, ⟨some 47, .binOp .sub 3 (.tmp 46) (.const (.int .i64 1)) 3, 3, some (some 44), true⟩, .q, []⟩,
  ⟨34, ⟨some 48, .indexAddr 34 (.tmp 45) (.tmp 47), 0, some (some 44), true⟩, .q, []⟩,
  ⟨35, ⟨some 49, .fieldAddr 40 (.tmp 48) 4, 0, some (some 44), true⟩, .q, []⟩,
  ⟨36, ⟨some 50, .load 2 (.tmp 49), 2, some (some 44), true⟩, .h, []⟩,
  ⟨37, ⟨some 51, .move (.tmp 0), 34, some (some 44), true⟩, .q, []⟩,
  ⟨38, ⟨some 52, .move (.tmp 4), 3, some (some 44), true⟩, .q, []⟩,
  ⟨39, ⟨some 53, .indexAddr 34 (.tmp 51) (.tmp 52), 0, some (some 44), true⟩, .q, []⟩,
  ⟨40, ⟨some 54, .fieldAddr 40 (.tmp 53) 4, 0, some (some 44), true⟩, .q, []⟩,
  ⟨41, ⟨some 55, .load 2 (.tmp 54), 2, some (some 44), true⟩, .h, []⟩,
  ⟨42, ⟨some 56, .binOp .eql 2 (.tmp 50) (.tmp 55) 2, 4, some (some 44), true⟩, .q, []⟩,
  ⟨43, ⟨some 57, .pick (.tmp 44) (.tmp 56) (.const (.bool false)), 4, none, true⟩, .q, []⟩]
theorem dc20_6 : drawC ap (drawOf T.c20 6).toList [0, 1, 2, 3, 4, 5, 6, 7, 8, 9, 10, 11, 12, 13, 14, 15, 16, 17, 18, 19, 20, 21, 22, 23, 24, 25, 26, 27, 28, 29, 30, 31, 32, 33, 34, 35, 36, 37, 38, 39, 40, 41, 42, 43] [[], [0], [0, 1], [0, 1, 2], [0, 1, 2], [0, 1, 2, 4], [0, 1, 2, 3, 4, 5], [0, 1, 2, 3, 4, 5, 6], [0, 1, 2, 3, 4, 5, 6, 7], [0, 1, 2], [0, 1, 2], [0, 1, 2, 9, 10], [0, 1, 2, 9, 10, 11], [0, 1, 2, 9, 10, 11, 12], [0, 1, 2, 3, 4, 5, 6, 7, 8, 9, 10, 11, 12, 13], [0, 1, 2, 3, 4, 5, 6, 7, 8, 9, 10, 11, 12, 13, 14], [0, 1, 2, 3, 4, 5, 6, 7, 8, 9, 10, 11, 12, 13, 14, 15], [0, 1, 2, 3, 4, 5, 6, 7, 8, 9, 10, 11, 12, 13, 14, 15, 16], [0, 1, 2, 3, 4, 5, 6, 7, 8, 9, 10, 11, 12, 13, 14, 15, 16], [0, 1, 2, 3, 4, 5, 6, 7, 8, 9, 10, 11, 12, 13, 14, 15, 16, 18], [0, 1, 2, 3, 4, 5, 6, 7, 8, 9, 10, 11, 12, 13, 14, 15, 16, 17, 18, 19], [0, 1, 2, 3, 4, 5, 6, 7, 8, 9, 10, 11, 12, 13, 14, 15, 16, 17, 18, 19, 20], [0, 1, 2, 3, 4, 5, 6, 7, 8, 9, 10, 11, 12, 13, 14, 15, 16, 17, 18, 19, 20, 21], [0, 1, 2, 3, 4, 5, 6, 7, 8, 9, 10, 11, 12, 13, 14, 15, 16], [0, 1, 2, 3, 4, 5, 6, 7, 8, 9, 10, 11, 12, 13, 14, 15, 16], [0, 1, 2, 3, 4, 5, 6, 7, 8, 9, 10, 11, 12, 13, 14, 15, 16, 23, 24], [0, 1, 2, 3, 4, 5, 6, 7, 8, 9, 10, 11, 12, 13, 14, 15, 16, 23, 24, 25], [0, 1, 2, 3, 4, 5, 6, 7, 8, 9, 10, 11, 12, 13, 14, 15, 16, 23, 24, 25, 26], [0, 1, 2, 3, 4, 5, 6, 7, 8, 9, 10, 11, 12, 13, 14, 15, 16, 17, 18, 19, 20, 21, 22, 23, 24, 25, 26, 27], [0, 1, 2, 3, 4, 5, 6, 7, 8, 9, 10, 11, 12, 13, 14, 15, 16, 17, 18, 19, 20, 21, 22, 23, 24, 25, 26, 27, 28], [0, 1, 2, 3, 4, 5, 6, 7, 8, 9, 10, 11, 12, 13, 14, 15, 16, 17, 18, 19, 20, 21, 22, 23, 24, 25, 26, 27, 28, 29], [0, 1, 2, 3, 4, 5, 6, 7, 8, 9, 10, 11, 12, 13, 14, 15, 16, 17, 18, 19, 20, 21, 22, 23, 24, 25, 26, 27, 28, 29, 30], [0, 1, 2, 3, 4, 5, 6, 7, 8, 9, 10, 11, 12, 13, 14, 15, 16, 17, 18, 19, 20, 21, 22, 23, 24, 25, 26, 27, 28, 29, 30], [0, 1, 2, 3, 4, 5, 6, 7, 8, 9, 10, 11, 12, 13, 14, 15, 16, 17, 18, 19, 20, 21, 22, 23, 24, 25, 26, 27, 28, 29, 30, 32], [0, 1, 2, 3, 4, 5, 6, 7, 8, 9, 10, 11, 12, 13, 14, 15, 16, 17, 18, 19, 20, 21, 22, 23, 24, 25, 26, 27, 28, 29, 30, 31, 32, 33], [0, 1, 2, 3, 4, 5, 6, 7, 8, 9, 10, 11, 12, 13, 14, 15, 16, 17, 18, 19, 20, 21, 22, 23, 24, 25, 26, 27, 28, 29, 30, 31, 32, 33, 34], [0, 1, 2, 3, 4, 5, 6, 7, 8, 9, 10, 11, 12, 13, 14, 15, 16, 17, 18, 19, 20, 21, 22, 23, 24, 25, 26, 27, 28, 29, 30, 31, 32, 33, 34, 35], [0, 1, 2, 3, 4, 5, 6, 7, 8, 9, 10, 11, 12, 13, 14, 15, 16, 17, 18, 19, 20, 21, 22, 23, 24, 25, 26, 27, 28, 29, 30], [0, 1, 2, 3, 4, 5, 6, 7, 8, 9, 10, 11, 12, 13, 14, 15, 16, 17, 18, 19, 20, 21, 22, 23, 24, 25, 26, 27, 28, 29, 30], [0, 1, 2, 3, 4, 5, 6, 7, 8, 9, 10, 11, 12, 13, 14, 15, 16, 17, 18, 19, 20, 21, 22, 23, 24, 25, 26, 27, 28, 29, 30, 37, 38], [0, 1, 2, 3, 4, 5, 6, 7, 8, 9, 10, 11, 12, 13, 14, 15, 16, 17, 18, 19, 20, 21, 22, 23, 24, 25, 26, 27, 28, 29, 30, 37, 38, 39], [0, 1, 2, 3, 4, 5, 6, 7, 8, 9, 10, 11, 12, 13, 14, 15, 16, 17, 18, 19, 20, 21, 22, 23, 24, 25, 26, 27, 28, 29, 30, 37, 38, 39, 40], [0, 1, 2, 3, 4, 5, 6, 7, 8, 9, 10, 11, 12, 13, 14, 15, 16, 17, 18, 19, 20, 21, 22, 23, 24, 25, 26, 27, 28, 29, 30, 31, 32, 33, 34, 35, 36, 37, 38, 39, 40, 41], [0, 1, 2, 3, 4, 5, 6, 7, 8, 9, 10, 11, 12, 13, 14, 15, 16, 17, 18, 19, 20, 21, 22, 23, 24, 25, 26, 27, 28, 29, 30, 31, 32, 33, 34, 35, 36, 37, 38, 39, 40, 41, 42]] = some d20_6 := by kernel_rfl
def d20_7 : List DP := [⟨0, ⟨some 58, .move (.tmp 3), 34, none, true⟩, .q, []⟩,
  ⟨1, ⟨some 59, .move (.tmp 5), 3, none, true⟩, .q, []⟩,
  ⟨2, ⟨some 60, .binOp .sub 3 (.tmp 59) (.const (.int .i64 1)) 3, 3, none, true⟩, .q, []⟩,
  ⟨3, ⟨some 61, .indexAddr 34 (.tmp 58) (.tmp 60), 0, none, true⟩, .q, []⟩,
  ⟨4, ⟨some 62, .fieldAddr 40 (.tmp 61) 3, 0, none, true⟩, .q, []⟩,
  ⟨5, ⟨some 63, .load 2 (.tmp 62), 2, none, true⟩, .h, []⟩,
  ⟨6, ⟨some 64, .move (.tmp 0), 34, none, true⟩, .q, []⟩,
  ⟨7, ⟨some 65, .move (.tmp 4), 3, none, true⟩, .q, []⟩,
  ⟨8, ⟨some 66, .indexAddr 34 (.tmp 64) (.tmp 65), 0, none, true⟩, .q, []⟩,
  ⟨9, ⟨some 67, .fieldAddr 40 (.tmp 66) 3, 0, none, true⟩, .q, []⟩,
  ⟨10, ⟨some 68, .load 2 (.tmp 67), 2, none, true⟩, .h, []⟩,
  ⟨11, ⟨some 69, .binOp .add 2 (.tmp 63) (.tmp 68) 2, 2, none, true⟩, .q, []⟩,
  ⟨12, ⟨some 70, .indexAddr 34 (.tmp 58) (.tmp 60), 0, none, true⟩, .q, []⟩,
  ⟨13, ⟨some 71, .fieldAddr 40 (.tmp 70) 3, 0, none, true⟩, .q, []⟩,
  ⟨14, ⟨none, .store 2 (.tmp 71) (.tmp 69), 0, none, true⟩, .e, []⟩]
theorem dc20_7 : drawC ap (drawOf T.c20 7).toList [0, 1, 2, 3, 4, 5, 6, 7, 8, 9, 10, 11, 12, 13, 14] [[], [], [1], [0, 1, 2], [0, 1, 2, 3], [0, 1, 2, 3, 4], [], [], [6, 7], [6, 7, 8], [6, 7, 8, 9], [0, 1, 2, 3, 4, 5, 6, 7, 8, 9, 10], [0, 1, 2, 3, 4, 5, 6, 7, 8, 9, 10, 11], [0, 1, 2, 3, 4, 5, 6, 7, 8, 9, 10, 11, 12], [0, 1, 2, 3, 4, 5, 6, 7, 8, 9, 10, 11, 12, 13]] = some d20_7 := by kernel_rfl
def d21_3 : List DP := [⟨0, ⟨some 26, .buildSlice 22 0 #[], 22, none, true⟩, .a, []⟩,
  ⟨1, ⟨some 27, .move (.tmp 0), 22, none, true⟩, .q, []⟩,
  ⟨3, ⟨some 29, .fieldAddr 24 (.tmp 3) 4, 0, none, true⟩, .q, []⟩,
  ⟨4, ⟨some 30, .load 2 (.tmp 29), 2, none, true⟩, .h, [1]⟩,
  ⟨2, ⟨some 28, .call (⟨.builtin .append, #[.tmp 26, .tmp 27], #[22, 22]⟩), 22, none, true⟩, .e, []⟩,
  ⟨5, ⟨some 8, .assign (.tmp 28), 22, none, true⟩, .q, []⟩,
  ⟨6, ⟨some 9, .assign (.tmp 30), 2, none, true⟩, .q, []⟩]
theorem dc21_3 : drawC ap (drawOf T.c21 3).toList [0, 1, 3, 4, 2, 5, 6] [[], [], [0, 1], [], [3], [0, 1, 2], [0, 1, 2, 3, 4, 5]] = some d21_3 := by kernel_rfl
def d21_9 : List DP := [⟨0, ⟨some 48, .fieldAddr 24 (.tmp 3) 3, 0, none, true⟩, .q, []⟩,
  ⟨1, ⟨some 49, .load 3 (.tmp 48), 3, none, true⟩, .h, []⟩,
  ⟨2, ⟨some 50, .binOp .eql 3 (.tmp 49) (.const (.int .i64 1)) 3, 4, none, true⟩, .q, []⟩,
  ⟨3, ⟨some 51, .move (.tmp 50), 4, none, true⟩, .q, []⟩,
  ⟨4, ⟨some 52, .move (.tmp 11), 22, some (some 51), true⟩, .q, []⟩,
  ⟨5, ⟨some 53, .move (.tmp 12), 3, some (some 51), true⟩, .q, []⟩,
  ⟨6, ⟨some 54, .indexAddr 22 (.tmp 52) (.tmp 53), 0, some (some 51), true⟩, .q, []⟩,
  ⟨7, ⟨some 55, .fieldAddr 24 (.tmp 54) 5, 0, some (some 51), true⟩, .q, []⟩,
  ⟨8, ⟨some 56, .load 2 (.tmp 55), 2, some (some 51), true⟩, .h, []⟩,
  ⟨9, ⟨some 57, .fieldAddr 24 (.tmp 3) 5, 0, some (some 51), true⟩, .q, []⟩,
  ⟨10, ⟨some 58, .load 2 (.tmp 57), 2, some (some 51), true⟩, .h, []⟩,
  ⟨11, ⟨some 59, .binOp .gtr 2 (.tmp 56) (.tmp 58) 2, 4, some (some 51), true⟩, .q, []⟩,
  ⟨12, ⟨some 60, .pick (.tmp 51) (.tmp 59) (.const (.bool false)), 4, none, true⟩, .q, []⟩,
  ⟨13, ⟨some 61, .move (.tmp 60), 4, none, true⟩, .q, []⟩,
  ⟨14, ⟨some 62, .fieldAddr 24 (.tmp 3) 3, 0, some (some 61), false⟩, .q, []⟩,
  ⟨15, ⟨some 63, .load 3 (.tmp 62), 3, some (some 61), false⟩, .h, []⟩,
  ⟨16, ⟨some 64, .binOp .eql 3 (.tmp 63) (.const (.int .i64 2)) 3, 4, some (some 61), false⟩, .q, []⟩,
  ⟨17, ⟨some 65, .move (.tmp 64), 4, some (some 61), false⟩, .q, []⟩,
  ⟨18, ⟨some 66, .move (.tmp 11), 22, some (some 65), true⟩, .q, []⟩,
  ⟨19, ⟨some 67, .move (.tmp 12), 3, some (some 65), true⟩, .q, []⟩,
  ⟨20, ⟨some 68, .indexAddr 22 (.tmp 66) (.tmp 67), 0, some (some 65), true⟩, .q, []⟩,
  ⟨21, ⟨some 69, .fieldAddr 24 (.tmp 68) 5, 0, some (some 65), true⟩, .q, []⟩,
  ⟨22, ⟨some 70, .load 2 (.tmp 69), 2, some (some 65), true⟩, .h, []⟩,
  ⟨23, ⟨some 71, .fieldAddr 24 (.tmp 3) 5, 0, some (some 65), true⟩, .q, []⟩,
  ⟨24, ⟨some 72, .load 2 (.tmp 71), 2, some (some 65), true⟩, .h, []⟩,
  ⟨25, ⟨some 73, .binOp .lss 2 (.tmp 70) (.tmp 72) 2, 4, some (some 65), true⟩, .q, []⟩,
  ⟨26, ⟨some 74, .pick (.tmp 65) (.tmp 73) (.const (.bool false)), 4, some (some 61), false⟩, .q, []⟩,
  ⟨27, ⟨some 75, .pick (.tmp 61) (.const (.bool true)) (.tmp 74), 4, none, true⟩, .q, []⟩]
theorem dc21_9 : drawC ap (drawOf T.c21 9).toList [0, 1, 2, 3, 4, 5, 6, 7, 8, 9, 10, 11, 12, 13, 14, 15, 16, 17, 18, 19, 20, 21, 22, 23, 24, 25, 26, 27] [[], [0], [0, 1], [0, 1, 2], [0, 1, 2, 3], [0, 1, 2, 3], [0, 1, 2, 3, 4, 5], [0, 1, 2, 3, 4, 5, 6], [0, 1, 2, 3, 4, 5, 6, 7], [0, 1, 2, 3], [0, 1, 2, 3, 9], [0, 1, 2, 3, 4, 5, 6, 7, 8, 9, 10], [0, 1, 2, 3, 4, 5, 6, 7, 8, 9, 10, 11], [0, 1, 2, 3, 4, 5, 6, 7, 8, 9, 10, 11, 12], [0, 1, 2, 3, 4, 5, 6, 7, 8, 9, 10, 11, 12, 13], [0, 1, 2, 3, 4, 5, 6, 7, 8, 9, 10, 11, 12, 13, 14], [0, 1, 2, 3, 4, 5, 6, 7, 8, 9, 10, 11, 12, 13, 14, 15], [0, 1, 2, 3, 4, 5, 6, 7, 8, 9, 10, 11, 12, 13, 14, 15, 16], [0, 1, 2, 3, 4, 5, 6, 7, 8, 9, 10, 11, 12, 13, 14, 15, 16, 17], [0, 1, 2, 3, 4, 5, 6, 7, 8, 9, 10, 11, 12, 13, 14, 15, 16, 17], [0, 1, 2, 3, 4, 5, 6, 7, 8, 9, 10, 11, 12, 13, 14, 15, 16, 17, 18, 19], [0, 1, 2, 3, 4, 5, 6, 7, 8, 9, 10, 11, 12, 13, 14, 15, 16, 17, 18, 19, 20], [0, 1, 2, 3, 4, 5, 6, 7, 8, 9, 10, 11, 12, 13, 14, 15, 16, 17, 18, 19, 20, 21], [0, 1, 2, 3, 4, 5, 6, 7, 8, 9, 10, 11, 12, 13, 14, 15, 16, 17], [0, 1, 2, 3, 4, 5, 6, 7, 8, 9, 10, 11, 12, 13, 14, 15, 16, 17, 23], [0, 1, 2, 3, 4, 5, 6, 7, 8, 9, 10, 11, 12, 13, 14, 15, 16, 17, 18, 19, 20, 21, 22, 23, 24], [0, 1, 2, 3, 4, 5, 6, 7, 8, 9, 10, 11, 12, 13, 14, 15, 16, 17, 18, 19, 20, 21, 22, 23, 24, 25], [0, 1, 2, 3, 4, 5, 6, 7, 8, 9, 10, 11, 12, 13, 14, 15, 16, 17, 18, 19, 20, 21, 22, 23, 24, 25, 26]] = some d21_9 := by kernel_rfl
def d21_10 : List DP := [⟨0, ⟨some 76, .move (.tmp 11), 22, none, true⟩, .q, []⟩,
  ⟨1, ⟨some 77, .move (.tmp 12), 3, none, true⟩, .q, []⟩,
  ⟨2, ⟨some 78, .indexAddr 22 (.tmp 76) (.tmp 77), 0, none, true⟩, .q, []⟩,
  ⟨3, ⟨some 79, .fieldAddr 24 (.tmp 78) 1, 0, none, true⟩, .q, []⟩,
  ⟨4, ⟨some 80, .load 3 (.tmp 79), 3, none, true⟩, .h, []⟩,
  ⟨5, ⟨some 81, .fieldAddr 24 (.tmp 3) 1, 0, none, true⟩, .q, []⟩,
  ⟨6, ⟨some 82, .load 3 (.tmp 81), 3, none, true⟩, .h, []⟩,
  ⟨7, ⟨some 83, .binOp .eql 3 (.tmp 80) (.tmp 82) 3, 4, none, true⟩, .q, []⟩]
theorem dc21_10 : drawC ap (drawOf T.c21 10).toList [0, 1, 2, 3, 4, 5, 6, 7] [[], [], [0, 1], [0, 1, 2], [0, 1, 2, 3], [], [5], [0, 1, 2, 3, 4, 5, 6]] = some d21_10 := by kernel_rfl
def d21_12 : List DP := [⟨16, ⟨some 14, .alloc 40, 0, none, true⟩, .a, []⟩,
  ⟨0, ⟨some 91, .fieldAddr 24 (.tmp 3) 1, 0, none, true⟩, .q, []⟩,
  ⟨1, ⟨some 92, .load 3 (.tmp 91), 3, none, true⟩, .h, []⟩,
  ⟨2, ⟨some 93, .move (.tmp 11), 22, none, true⟩, .q, []⟩,
  ⟨3, ⟨some 94, .move (.tmp 12), 3, none, true⟩, .q, []⟩,
  ⟨4, ⟨some 95, .indexAddr 22 (.tmp 93) (.tmp 94), 0, none, true⟩, .q, []⟩,
  ⟨5, ⟨some 96, .fieldAddr 24 (.tmp 95) 1, 0, none, true⟩, .q, []⟩,
  ⟨6, ⟨some 97, .load 3 (.tmp 96), 3, none, true⟩, .h, []⟩,
  ⟨7, ⟨some 98, .fieldAddr 24 (.tmp 3) 2, 0, none, true⟩, .q, []⟩,
  ⟨8, ⟨some 99, .load 3 (.tmp 98), 3, none, true⟩, .h, []⟩,
  ⟨9, ⟨some 100, .move (.tmp 13), 2, none, true⟩, .q, []⟩,
  ⟨10, ⟨some 101, .move (.tmp 11), 22, none, true⟩, .q, []⟩,
  ⟨11, ⟨some 102, .move (.tmp 12), 3, none, true⟩, .q, []⟩,
  ⟨12, ⟨some 103, .indexAddr 22 (.tmp 101) (.tmp 102), 0, none, true⟩, .q, []⟩,
  ⟨13, ⟨some 104, .fieldAddr 24 (.tmp 103) 5, 0, none, true⟩, .q, []⟩,
  ⟨14, ⟨some 105, .load 2 (.tmp 104), 2, none, true⟩, .h, []⟩,
  ⟨15, ⟨some 106, .build 40 #[(0, .tmp 92), (1, .tmp 97), (2, .tmp 99), (3, .tmp 100), (4, .tmp 105)], 40, none, true⟩, .q, []⟩,
  ⟨17, ⟨none, .store 40 (.tmp 14) (.tmp 106), 0, none, true⟩, .e, []⟩]
theorem dc21_12 : drawC ap (drawOf T.c21 12).toList [16, 0, 1, 2, 3, 4, 5, 6, 7, 8, 9, 10, 11, 12, 13, 14, 15, 17] [[], [0], [], [], [2, 3], [2, 3, 4], [2, 3, 4, 5], [], [7], [], [], [], [10, 11], [10, 11, 12], [10, 11, 12, 13], [0, 1, 2, 3, 4, 5, 6, 7, 8, 9, 10, 11, 12, 13, 14], [], [0, 1, 2, 3, 4, 5, 6, 7, 8, 9, 10, 11, 12, 13, 14, 15, 16]] = some d21_12 := by kernel_rfl
def d21_14 : List DP := [⟨0, ⟨some 110, .move (.tmp 11), 22, none, true⟩, .q, []⟩,
  ⟨1, ⟨some 111, .move (.tmp 12), 3, none, true⟩, .q, []⟩,
  ⟨2, ⟨some 112, .indexAddr 22 (.tmp 110) (.tmp 111), 0, none, true⟩, .q, []⟩,
  ⟨3, ⟨some 113, .fieldAddr 24 (.tmp 112) 1, 0, none, true⟩, .q, []⟩,
  ⟨4, ⟨some 114, .load 3 (.tmp 113), 3, none, true⟩, .h, []⟩,
  ⟨5, ⟨some 115, .fieldAddr 24 (.tmp 3) 1, 0, none, true⟩, .q, []⟩,
  ⟨6, ⟨some 116, .load 3 (.tmp 115), 3, none, true⟩, .h, [1]⟩,
  ⟨7, ⟨some 117, .fieldAddr 40 (.tmp 14) 0, 0, none, true⟩, .q, []⟩,
  ⟨8, ⟨none, .store 3 (.tmp 117) (.tmp 114), 0, none, true⟩, .e, []⟩,
  ⟨9, ⟨some 118, .fieldAddr 40 (.tmp 14) 1, 0, none, true⟩, .q, []⟩,
  ⟨10, ⟨none, .store 3 (.tmp 118) (.tmp 116), 0, none, true⟩, .e, []⟩]
theorem dc21_14 : drawC ap (drawOf T.c21 14).toList [0, 1, 2, 3, 4, 5, 6, 7, 8, 9, 10] [[], [], [0, 1], [0, 1, 2], [0, 1, 2, 3], [], [5], [0, 1, 2, 3, 4], [0, 1, 2, 3, 4, 7], [0, 1, 2, 3, 4, 5, 6, 7, 8], [0, 1, 2, 3, 4, 5, 6, 7, 8, 9]] = some d21_14 := by kernel_rfl
def d21_20 : List DP := [⟨0, ⟨some 132, .move (.tmp 8), 22, none, true⟩, .q, []⟩,
  ⟨1, ⟨some 133, .move (.tmp 15), 3, none, true⟩, .q, []⟩,
  ⟨2, ⟨some 134, .indexAddr 22 (.tmp 132) (.tmp 133), 0, none, true⟩, .q, []⟩,
  ⟨3, ⟨some 135, .fieldAddr 24 (.tmp 134) 0, 0, none, true⟩, .q, []⟩,
  ⟨4, ⟨some 136, .load 2 (.tmp 135), 2, none, true⟩, .h, []⟩,
  ⟨5, ⟨some 137, .move (.tmp 11), 22, none, true⟩, .q, []⟩,
  ⟨6, ⟨some 138, .move (.tmp 12), 3, none, true⟩, .q, []⟩,
  ⟨7, ⟨some 139, .indexAddr 22 (.tmp 137) (.tmp 138), 0, none, true⟩, .q, []⟩,
  ⟨8, ⟨some 140, .fieldAddr 24 (.tmp 139) 0, 0, none, true⟩, .q, []⟩,
  ⟨9, ⟨some 141, .load 2 (.tmp 140), 2, none, true⟩, .h, []⟩,
  ⟨10, ⟨some 142, .binOp .eql 2 (.tmp 136) (.tmp 141) 2, 4, none, true⟩, .q, []⟩]
theorem dc21_20 : drawC ap (drawOf T.c21 20).toList [0, 1, 2, 3, 4, 5, 6, 7, 8, 9, 10] [[], [], [0, 1], [0, 1, 2], [0, 1, 2, 3], [], [], [5, 6], [5, 6, 7], [5, 6, 7, 8], [0, 1, 2, 3, 4, 5, 6, 7, 8, 9]] = some d21_20 := by kernel_rfl
def d23_7 : List DP := [⟨0, ⟨some 16, .move (.tmp 0), 22, none, true⟩, .q, []⟩,
  ⟨1, ⟨some 17, .move (.tmp 3), 3, none, true⟩, .q, []⟩,
  ⟨2, ⟨some 18, .indexAddr 22 (.tmp 16) (.tmp 17), 0, none, true⟩, .q, []⟩,
  ⟨3, ⟨some 19, .load 24 (.tmp 18), 24, none, true⟩, .h, []⟩,
  ⟨4, ⟨some 20, .move (.tmp 0), 22, none, true⟩, .q, []⟩,
  ⟨5, ⟨some 21, .move (.tmp 4), 3, none, true⟩, .q, []⟩,
  ⟨6, ⟨some 22, .indexAddr 22 (.tmp 20) (.tmp 21), 0, none, true⟩, .q, []⟩,
  ⟨7, ⟨some 23, .load 24 (.tmp 22), 24, none, true⟩, .h, []⟩,
  ⟨8, ⟨some 24, .call (⟨.value (.func 22), #[.tmp 19, .tmp 23], #[24, 24]⟩), 4, none, true⟩, .e, []⟩]
theorem dc23_7 : drawC ap (drawOf T.c23 7).toList [0, 1, 2, 3, 4, 5, 6, 7, 8] [[], [], [0, 1], [0, 1, 2], [], [], [4, 5], [4, 5, 6], [0, 1, 2, 3, 4, 5, 6, 7]] = some d23_7 := by kernel_rfl
def d24_2 : List DP := [⟨0, ⟨some 4, .move (.tmp 0), 28, none, true⟩, .q, []⟩,
  ⟨1, ⟨some 5, .nilCheck (.tmp 4), 0, none, true⟩, .q, []⟩,
  ⟨2, ⟨some 6, .fieldAddr 47 (.tmp 5) 1, 0, none, true⟩, .q, []⟩,
  ⟨3, ⟨some 7, .load 3 (.tmp 6), 3, none, true⟩, .h, []⟩,
  ⟨4, ⟨some 8, .move (.tmp 0), 28, none, true⟩, .q, []⟩,
  ⟨5, ⟨some 9, .nilCheck (.tmp 8), 0, none, true⟩, .q, []⟩,
  ⟨6, ⟨some 10, .fieldAddr 47 (.tmp 9) 0, 0, none, true⟩, .q, []⟩,
  ⟨7, ⟨some 11, .load 27 (.tmp 10), 27, none, true⟩, .h, []⟩,
  ⟨8, ⟨some 12, .call (⟨.builtin .len, #[.tmp 11], #[27]⟩), 3, none, true⟩, .q, []⟩,
  ⟨9, ⟨some 13, .binOp .lss 3 (.tmp 7) (.tmp 12) 3, 4, none, true⟩, .q, []⟩]
theorem dc24_2 : drawC ap (drawOf T.c24 2).toList [0, 1, 2, 3, 4, 5, 6, 7, 8, 9] [[], [0], [0, 1], [0, 1, 2], [], [4], [4, 5], [4, 5, 6], [4, 5, 6, 7], [0, 1, 2, 3, 4, 5, 6, 7, 8]] = some d24_2 := by kernel_rfl
def d24_3 : List DP := [⟨0, ⟨some 14, .move (.tmp 0), 28, none, true⟩, .q, []⟩,
  ⟨1, ⟨some 15, .nilCheck (.tmp 14), 0, none, true⟩, .q, []⟩,
  ⟨2, ⟨some 16, .fieldAddr 47 (.tmp 15) 0, 0, none, true⟩, .q, []⟩,
  ⟨3, ⟨some 17, .load 27 (.tmp 16), 27, none, true⟩, .h, []⟩,
  ⟨4, ⟨some 18, .move (.tmp 0), 28, none, true⟩, .q, []⟩,
  ⟨5, ⟨some 19, .nilCheck (.tmp 18), 0, none, true⟩, .q, []⟩,
  ⟨6, ⟨some 20, .fieldAddr 47 (.tmp 19) 1, 0, none, true⟩, .q, []⟩,
  ⟨7, ⟨some 21, .load 3 (.tmp 20), 3, none, true⟩, .h, []⟩,
  ⟨8, ⟨some 22, .indexAddr 27 (.tmp 17) (.tmp 21), 0, none, true⟩, .q, []⟩,
  ⟨9, ⟨some 23, .load 48 (.tmp 22), 48, none, true⟩, .h, []⟩,
  ⟨10, ⟨some 3, .assign (.tmp 23), 48, none, true⟩, .q, []⟩]
theorem dc24_3 : drawC ap (drawOf T.c24 3).toList [0, 1, 2, 3, 4, 5, 6, 7, 8, 9, 10] [[], [0], [0, 1], [0, 1, 2], [], [4], [4, 5], [4, 5, 6], [0, 1, 2, 3, 4, 5, 6, 7], [0, 1, 2, 3, 4, 5, 6, 7, 8], [0, 1, 2, 3, 4, 5, 6, 7, 8, 9]] = some d24_3 := by kernel_rfl
def d27_8 : List DP := [⟨0, ⟨some 31, .move (.tmp 10), 3, none, true⟩, .q, []⟩,
  ⟨1, ⟨some 32, .binOp .gtr 3 (.tmp 31) (.const (.int .i64 0)) 3, 4, none, true⟩, .q, []⟩,
  ⟨2, ⟨some 33, .move (.tmp 32), 4, none, true⟩, .q, []⟩,
  ⟨3, ⟨some 34, .load 24 (.tmp 9), 24, some (some 33), true⟩, .h, []⟩,
  ⟨4, ⟨some 35, .load 22 (.tmp 7), 22, some (some 33), true⟩, .h, []⟩,
  ⟨5, ⟨some 36, .move (.tmp 10), 3, some (some 33), true⟩, .q, []⟩,
  ⟨6, ⟨some 37, .binOp .sub 3 (.tmp 36) (.const (.int .i64 1)) 3, 3, some (some 33), true⟩, .q, []⟩,
  ⟨7, ⟨some 38, .indexAddr 22 (.tmp 35) (.tmp 37), 0, some (some 33), true⟩, .q, []⟩,
  ⟨8, ⟨some 39, .load 24 (.tmp 38), 24, some (some 33), true⟩, .h, []⟩,
  ⟨9, ⟨some 40, .call (⟨.value (.func 36), #[.tmp 34, .tmp 39], #[24, 24]⟩), 4, some (some 33), true⟩, .e, []⟩,
  ⟨10, ⟨some 41, .pick (.tmp 33) (.tmp 40) (.const (.bool false)), 4, none, true⟩, .q, []⟩]
theorem dc27_8 : drawC ap (drawOf T.c27 8).toList [0, 1, 2, 3, 4, 5, 6, 7, 8, 9, 10] [[], [0], [0, 1], [0, 1, 2], [0, 1, 2], [0, 1, 2], [0, 1, 2, 5], [0, 1, 2, 4, 5, 6], [0, 1, 2, 4, 5, 6, 7], [0, 1, 2, 3, 4, 5, 6, 7, 8], [0, 1, 2, 3, 4, 5, 6, 7, 8, 9]] = some d27_8 := by kernel_rfl
def d33_6 : List DP := [⟨0, ⟨some 13, .move (.tmp 0), 22, none, true⟩, .q, []⟩,
  ⟨1, ⟨some 14, .move (.tmp 3), 3, none, true⟩, .q, []⟩,
  ⟨2, ⟨some 15, .indexAddr 22 (.tmp 13) (.tmp 14), 0, none, true⟩, .q, []⟩,
  ⟨3, ⟨some 16, .load 24 (.tmp 15), 24, none, true⟩, .h, []⟩,
  ⟨4, ⟨some 17, .call (⟨.value (.func 34), #[.tmp 16], #[24]⟩), 4, none, true⟩, .e, []⟩,
  ⟨5, ⟨some 18, .unOp .not 4 (.tmp 17), 4, none, true⟩, .q, []⟩,
  ⟨6, ⟨some 19, .move (.tmp 18), 4, none, true⟩, .q, []⟩,
  ⟨7, ⟨some 20, .move (.tmp 3), 3, some (some 19), false⟩, .q, []⟩,
  ⟨8, ⟨some 21, .binOp .gtr 3 (.tmp 20) (.const (.int .i64 0)) 3, 4, some (some 19), false⟩, .q, []⟩,
  ⟨9, ⟨some 22, .move (.tmp 21), 4, some (some 19), false⟩, .q, []⟩,
  ⟨10, ⟨some 23, .move (.tmp 0), 22, some (some 22), true⟩, .q, []⟩,
  ⟨11, ⟨some 24, .move (.tmp 3), 3, some (some 22), true⟩, .q, []⟩,
  ⟨12, ⟨some 25, .indexAddr 22 (.tmp 23) (.tmp 24), 0, some (some 22), true⟩, .q, []⟩,
  ⟨13, ⟨some 26, .fieldAddr 24 (.tmp 25) 0, 0, some (some 22), true⟩, .q, []⟩,
  ⟨14, ⟨some 27, .load 2 (.tmp 26), 2, some (some 22), true⟩, .h, []⟩,
  ⟨15, ⟨some 28, .move (.tmp 0), 22, some (some 22), true⟩, .q, []⟩,
  ⟨16, ⟨some 29, .move (.tmp 3), 3, some (some 22), true⟩, .q, []⟩,
  ⟨17, ⟨some 30, .binOp .sub 3 (.tmp 29) (.const (.int .i64 1)) 3, 3, some (some 22), true⟩, .q, []⟩,
  ⟨18, ⟨some 31, .indexAddr 22 (.tmp 28) (.tmp 30), 0, some (some 22), true⟩, .q, []⟩,
  ⟨19, ⟨some 32, .fieldAddr 24 (.tmp 31) 0, 0, some (some 22), true⟩, .q, []⟩,
  ⟨20, ⟨some 33, .load 2 (.tmp 32), 2, some (some 22), true⟩, .h, []⟩,
  ⟨21, ⟨some 34, .binOp .leq 2 (.tmp 27) (.tmp 33) 2, 4, some (some 22), true⟩, .q, []⟩,
  ⟨22, ⟨some 35, .pick (.tmp 22) (.tmp 34) (.const (.bool false)), 4, some (some 19), false⟩, .q, []⟩,
  ⟨23, ⟨some 36, .pick (.tmp 19) (.const (.bool true)) (.tmp 35), 4, none, true⟩, .q, []⟩]
theorem dc33_6 : drawC ap (drawOf T.c33 6).toList [0, 1, 2, 3, 4, 5, 6, 7, 8, 9, 10, 11, 12, 13, 14, 15, 16, 17, 18, 19, 20, 21, 22, 23] [[], [], [0, 1], [0, 1, 2], [0, 1, 2, 3], [0, 1, 2, 3, 4], [0, 1, 2, 3, 4, 5], [0, 1, 2, 3, 4, 5, 6], [0, 1, 2, 3, 4, 5, 6, 7], [0, 1, 2, 3, 4, 5, 6, 7, 8], [0, 1, 2, 3, 4, 5, 6, 7, 8, 9], [0, 1, 2, 3, 4, 5, 6, 7, 8, 9], [0, 1, 2, 3, 4, 5, 6, 7, 8, 9, 10, 11], [0, 1, 2, 3, 4, 5, 6, 7, 8, 9, 10, 11, 12], [0, 1, 2, 3, 4, 5, 6, 7, 8, 9, 10, 11, 12, 13], [0, 1, 2, 3, 4, 5, 6, 7, 8, 9], [0, 1, 2, 3, 4, 5, 6, 7, 8, 9], [0, 1, 2, 3, 4, 5, 6, 7, 8, 9, 16], [0, 1, 2, 3, 4, 5, 6, 7, 8, 9, 15, 16, 17], [0, 1, 2, 3, 4, 5, 6, 7, 8, 9, 15, 16, 17, 18], [0, 1, 2, 3, 4, 5, 6, 7, 8, 9, 15, 16, 17, 18, 19], [0, 1, 2, 3, 4, 5, 6, 7, 8, 9, 10, 11, 12, 13, 14, 15, 16, 17, 18, 19, 20], [0, 1, 2, 3, 4, 5, 6, 7, 8, 9, 10, 11, 12, 13, 14, 15, 16, 17, 18, 19, 20, 21], [0, 1, 2, 3, 4, 5, 6, 7, 8, 9, 10, 11, 12, 13, 14, 15, 16, 17, 18, 19, 20, 21, 22]] = some d33_6 := by kernel_rfl
def d35_9 : List DP := [⟨0, ⟨some 37, .move (.tmp 9), 3, none, true⟩, .q, []⟩,
  ⟨1, ⟨some 38, .move (.tmp 7), 22, none, true⟩, .q, []⟩,
  ⟨2, ⟨some 39, .call (⟨.builtin .len, #[.tmp 38], #[22]⟩), 3, none, true⟩, .q, []⟩,
  ⟨3, ⟨some 40, .binOp .lss 3 (.tmp 37) (.tmp 39) 3, 4, none, true⟩, .q, []⟩,
  ⟨4, ⟨some 41, .move (.tmp 40), 4, none, true⟩, .q, []⟩,
  ⟨5, ⟨some 42, .move (.tmp 7), 22, some (some 41), true⟩, .q, []⟩,
  ⟨6, ⟨some 43, .move (.tmp 9), 3, some (some 41), true⟩, .q, []⟩,
  ⟨7, ⟨some 44, .indexAddr 22 (.tmp 42) (.tmp 43), 0, some (some 41), true⟩, .q, []⟩,
  ⟨8, ⟨some 45, .load 24 (.tmp 44), 24, some (some 41), true⟩, .h, []⟩,
  ⟨9, ⟨some 46, .move (.tmp 0), 22, some (some 41), true⟩, .q, []⟩,
  ⟨10, ⟨some 47, .move (.tmp 8), 3, some (some 41), true⟩, .q, []⟩,
  ⟨11, ⟨some 48, .indexAddr 22 (.tmp 46) (.tmp 47), 0, some (some 41), true⟩, .q, []⟩,
  ⟨12, ⟨some 49, .load 24 (.tmp 48), 24, some (some 41), true⟩, .h, []⟩,
  ⟨13, ⟨some 50, .call (⟨.value (.func 41), #[.tmp 45, .tmp 49], #[24, 24]⟩), 4, some (some 41), true⟩, .e, []⟩,
  ⟨14, ⟨some 51, .pick (.tmp 41) (.tmp 50) (.const (.bool false)), 4, none, true⟩, .q, []⟩]
theorem dc35_9 : drawC ap (drawOf T.c35 9).toList [0, 1, 2, 3, 4, 5, 6, 7, 8, 9, 10, 11, 12, 13, 14] [[], [], [1], [0, 1, 2], [0, 1, 2, 3], [0, 1, 2, 3, 4], [0, 1, 2, 3, 4], [0, 1, 2, 3, 4, 5, 6], [0, 1, 2, 3, 4, 5, 6, 7], [0, 1, 2, 3, 4], [0, 1, 2, 3, 4], [0, 1, 2, 3, 4, 9, 10], [0, 1, 2, 3, 4, 9, 10, 11], [0, 1, 2, 3, 4, 5, 6, 7, 8, 9, 10, 11, 12], [0, 1, 2, 3, 4, 5, 6, 7, 8, 9, 10, 11, 12, 13]] = some d35_9 := by kernel_rfl
def d37_11 : List DP := [⟨0, ⟨some 46, .move (.tmp 9), 22, none, true⟩, .q, []⟩,
  ⟨1, ⟨some 47, .move (.tmp 1), 3, none, true⟩, .q, []⟩,
  ⟨2, ⟨some 48, .move (.tmp 7), 3, none, true⟩, .q, []⟩,
  ⟨3, ⟨some 49, .binOp .add 3 (.tmp 47) (.tmp 48) 3, 3, none, true⟩, .q, []⟩,
  ⟨4, ⟨some 50, .slice 22 (.tmp 46) (some (.tmp 49)) none none, 22, none, true⟩, .h, []⟩,
  ⟨5, ⟨some 51, .move (.tmp 0), 22, none, true⟩, .q, []⟩,
  ⟨6, ⟨some 52, .move (.tmp 1), 3, none, true⟩, .q, []⟩,
  ⟨7, ⟨some 53, .slice 22 (.tmp 51) (some (.tmp 52)) none none, 22, none, true⟩, .h, []⟩,
  ⟨8, ⟨some 54, .call (⟨.builtin .copy, #[.tmp 50, .tmp 53], #[22, 22]⟩), 3, none, true⟩, .e, []⟩]
theorem dc37_11 : drawC ap (drawOf T.c37 11).toList [0, 1, 2, 3, 4, 5, 6, 7, 8] [[], [], [], [1, 2], [0, 1, 2, 3], [], [], [5, 6], [0, 1, 2, 3, 4, 5, 6, 7]] = some d37_11 := by kernel_rfl
def d37_15 : List DP := [⟨0, ⟨some 69, .move (.tmp 0), 22, none, true⟩, .q, []⟩,
  ⟨1, ⟨some 70, .move (.tmp 1), 3, none, true⟩, .q, []⟩,
  ⟨2, ⟨some 71, .move (.tmp 7), 3, none, true⟩, .q, []⟩,
  ⟨3, ⟨some 72, .binOp .add 3 (.tmp 70) (.tmp 71) 3, 3, none, true⟩, .q, []⟩,
  ⟨4, ⟨some 73, .slice 22 (.tmp 69) (some (.tmp 72)) none none, 22, none, true⟩, .h, []⟩,
  ⟨5, ⟨some 74, .move (.tmp 0), 22, none, true⟩, .q, []⟩,
  ⟨6, ⟨some 75, .move (.tmp 1), 3, none, true⟩, .q, []⟩,
  ⟨7, ⟨some 76, .slice 22 (.tmp 74) (some (.tmp 75)) none none, 22, none, true⟩, .h, []⟩,
  ⟨8, ⟨some 77, .call (⟨.builtin .copy, #[.tmp 73, .tmp 76], #[22, 22]⟩), 3, none, true⟩, .e, []⟩]
theorem dc37_15 : drawC ap (drawOf T.c37 15).toList [0, 1, 2, 3, 4, 5, 6, 7, 8] [[], [], [], [1, 2], [0, 1, 2, 3], [], [], [5, 6], [0, 1, 2, 3, 4, 5, 6, 7]] = some d37_15 := by kernel_rfl
def d45_3 : List DP := [⟨0, ⟨some 14, .move (.tmp 0), 22, none, true⟩, .q, []⟩,
  ⟨1, ⟨some 15, .move (.tmp 2), 3, none, true⟩, .q, []⟩,
  ⟨2, ⟨some 16, .move (.tmp 0), 22, none, true⟩, .q, []⟩,
  ⟨3, ⟨some 17, .move (.tmp 3), 3, none, true⟩, .q, []⟩,
  ⟨4, ⟨some 18, .move (.tmp 0), 22, none, true⟩, .q, []⟩,
  ⟨5, ⟨some 19, .move (.tmp 3), 3, none, true⟩, .q, []⟩,
  ⟨6, ⟨some 20, .indexAddr 22 (.tmp 18) (.tmp 19), 0, none, true⟩, .q, []⟩,
  ⟨7, ⟨some 21, .load 24 (.tmp 20), 24, none, true⟩, .h, []⟩,
  ⟨8, ⟨some 22, .move (.tmp 0), 22, none, true⟩, .q, []⟩,
  ⟨9, ⟨some 23, .move (.tmp 2), 3, none, true⟩, .q, []⟩,
  ⟨10, ⟨some 24, .indexAddr 22 (.tmp 22) (.tmp 23), 0, none, true⟩, .q, []⟩,
  ⟨11, ⟨some 25, .load 24 (.tmp 24), 24, none, true⟩, .h, []⟩,
  ⟨12, ⟨some 26, .indexAddr 22 (.tmp 14) (.tmp 15), 0, none, true⟩, .q, []⟩,
  ⟨13, ⟨none, .store 24 (.tmp 26) (.tmp 21), 0, none, true⟩, .e, []⟩,
  ⟨14, ⟨some 27, .indexAddr 22 (.tmp 16) (.tmp 17), 0, none, true⟩, .q, []⟩,
  ⟨15, ⟨none, .store 24 (.tmp 27) (.tmp 25), 0, none, true⟩, .e, []⟩]
theorem dc45_3 : drawC ap (drawOf T.c45 3).toList [0, 1, 2, 3, 4, 5, 6, 7, 8, 9, 10, 11, 12, 13, 14, 15] [[], [], [], [], [], [], [4, 5], [4, 5, 6], [], [], [8, 9], [8, 9, 10], [0, 1, 4, 5, 6, 7, 8, 9, 10, 11], [0, 1, 4, 5, 6, 7, 8, 9, 10, 11, 12], [0, 1, 2, 3, 4, 5, 6, 7, 8, 9, 10, 11, 12, 13], [0, 1, 2, 3, 4, 5, 6, 7, 8, 9, 10, 11, 12, 13, 14]] = some d45_3 := by kernel_rfl
end Go.Proofs.Ytjpmddjibeecbaa.T
end
