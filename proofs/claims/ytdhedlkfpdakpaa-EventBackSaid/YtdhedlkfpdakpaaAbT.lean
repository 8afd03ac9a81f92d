import Derived.Test.YtdhedlkfpdakpaaProg
import Derived.Test.YtdhedlkfpdakpaaAb23
import Derived.KernelRfl
/-! The tables of the abstract reading. Written by wip/ab/abgen.py (an own program) out of the loaded program. -/
set_option linter.unusedVariables false
set_option maxRecDepth 100000
namespace Go.Proofs.Ytdhedlkfpdakpaa.T
open Go Go.Ab
noncomputable def c3 : Code := bodyOf Try.f3
noncomputable def c4 : Code := bodyOf Try.f4
noncomputable def c5 : Code := bodyOf Try.f5
noncomputable def c6 : Code := bodyOf Try.f6
noncomputable def c7 : Code := bodyOf Try.f7
noncomputable def c8 : Code := bodyOf Try.f8
noncomputable def c9 : Code := bodyOf Try.f9
noncomputable def c10 : Code := bodyOf Try.f10
noncomputable def c11 : Code := bodyOf Try.f11
noncomputable def c12 : Code := bodyOf Try.f12
noncomputable def c13 : Code := bodyOf Try.f13
noncomputable def c14 : Code := bodyOf Try.f14
noncomputable def c15 : Code := bodyOf Try.f15
noncomputable def c16 : Code := bodyOf Try.f16
noncomputable def c17 : Code := bodyOf Try.f17
noncomputable def c18 : Code := bodyOf Try.f18
noncomputable def c19 : Code := bodyOf Try.f19
noncomputable def c20 : Code := bodyOf Try.f20
noncomputable def c21 : Code := bodyOf Try.f21
noncomputable def c22 : Code := bodyOf Try.f22
noncomputable def c23 : Code := bodyOf Try.f23
noncomputable def c24 : Code := bodyOf Try.f24
noncomputable def c25 : Code := bodyOf Try.f25
noncomputable def c26 : Code := bodyOf Try.f26
noncomputable def c27 : Code := bodyOf Try.f27
noncomputable def c28 : Code := bodyOf Try.f28
noncomputable def c29 : Code := bodyOf Try.f29
noncomputable def c30 : Code := bodyOf Try.f30
noncomputable def c31 : Code := bodyOf Try.f31
noncomputable def c32 : Code := bodyOf Try.f32
noncomputable def c33 : Code := bodyOf Try.f33
noncomputable def c34 : Code := bodyOf Try.f34
noncomputable def c35 : Code := bodyOf Try.f35
noncomputable def c36 : Code := bodyOf Try.f36
noncomputable def c37 : Code := bodyOf Try.f37
noncomputable def c38 : Code := bodyOf Try.f38
noncomputable def c39 : Code := bodyOf Try.f39
noncomputable def c40 : Code := bodyOf Try.f40
noncomputable def c41 : Code := bodyOf Try.f41
noncomputable def c42 : Code := bodyOf Try.f42
def t1 : TI := ⟨1, 8, [.nilFunc], .func⟩
def t2 : TI := ⟨1, 8, [.int .i64 0], .int .i64⟩
def t3 : TI := ⟨1, 8, [.int .i64 0], .int .i64⟩
def t4 : TI := ⟨1, 1, [.bool false], .bool⟩
def t5 : TI := ⟨1, 1, [.int .u8 0], .int .u8⟩
def t6 : TI := ⟨1, 1, [.int .u8 0], .int .u8⟩
def t7 : TI := ⟨4, 24, [.int .i64 0, .int .i64 0, .bool false, .int .u8 0], .struct [(0, 2), (1, 3), (2, 4), (3, 6)]⟩
def t9 : TI := ⟨1, 16, [.str ⟨#[]⟩], .string⟩
def t23 : TI := ⟨8, 64, [.int .i64 0, .int .i64 0, .int .i64 0, .int .i64 0, .int .i64 0, .int .i64 0, .int .i64 0, .int .i64 0], .struct [(0, 3), (1, 3), (2, 3), (3, 3), (4, 3), (5, 2), (6, 2), (7, 2)]⟩
def t25 : TI := ⟨1, 24, [.slice none 0 (some 0) 0], .slice 5⟩
def t26 : TI := ⟨1, 8, [.int .i64 0], .int .i64⟩
def t32 : TI := ⟨1, 24, [.slice none 0 (some 0) 0], .slice 64⟩
def t33 : TI := ⟨1, 8, [.ptr none], .ptr 55⟩
def t36 : TI := ⟨1, 24, [.slice none 0 (some 0) 0], .slice 60⟩
def t38 : TI := ⟨7, 72, [.slice none 0 (some 0) 0, .int .i64 0, .int .i64 0, .int .i64 0, .int .i64 0, .int .i64 0, .int .i64 0], .struct [(0, 36), (1, 2), (2, 3), (3, 2), (4, 2), (5, 2), (6, 2)]⟩
def t55 : TI := ⟨2, 32, [.slice none 0 (some 0) 0, .int .i64 0], .struct [(0, 32), (1, 3)]⟩
def t60 : TI := ⟨4, 32, [.int .i64 0, .int .i64 0, .int .i64 0, .int .i64 0], .struct [(0, 3), (1, 2), (2, 2), (3, 2)]⟩
def t64 : TI := ⟨1, 8, [.int .u64 0], .int .u64⟩
/-- novation/novationlaw6.EventPuts -/
noncomputable def b3 : AC :=
  .seq (.region [⟨some 2, .box 23 (.tmp 0), 0, none, true⟩, ⟨some 4, .assign (.const (.bool false)), 4, none, true⟩])
  (.seq (.seq (.region [⟨some 9, .call (⟨.value (.func 9), #[], #[]⟩), 4, none, true⟩, ⟨some 10, .unOp .not 4 (.tmp 9), 4, none, true⟩])
  (.cond (.tmp 10) (.seq (.region [⟨some 4, .assign (.const (.bool false)), 4, none, true⟩])
  .ret) .skip))
  (.seq (.region [⟨some 12, .load 23 (.tmp 2), 23, none, true⟩, ⟨some 13, .call (⟨.value (.func 10), #[.tmp 12], #[23]⟩), 27, none, true⟩, ⟨some 11, .move (.tmp 13), 27, none, true⟩, ⟨some 14, .extract (.tmp 11) 0, 25, none, true⟩, ⟨some 15, .extract (.tmp 11) 1, 26, none, true⟩, ⟨some 5, .assign (.tmp 14), 25, none, true⟩, ⟨some 6, .assign (.tmp 15), 26, none, true⟩])
  (.seq (.region [⟨some 17, .load 23 (.tmp 2), 23, none, true⟩, ⟨some 18, .call (⟨.value (.func 11), #[.tmp 17], #[23]⟩), 27, none, true⟩, ⟨some 16, .move (.tmp 18), 27, none, true⟩, ⟨some 19, .extract (.tmp 16) 0, 25, none, true⟩, ⟨some 20, .extract (.tmp 16) 1, 26, none, true⟩, ⟨some 7, .assign (.tmp 19), 25, none, true⟩, ⟨some 8, .assign (.tmp 20), 26, none, true⟩])
  (.seq (.draw (drawOf T.c3 5) [0, 2, 1, 3, 4, 5, 6, 7, 8, 9, 10, 11, 12, 13, 14, 15, 16, 17, 18, 20, 19, 21, 22, 23, 24] [[], [0], [], [0, 1, 2], [0, 1, 2, 3], [0, 1, 2, 3, 4], [0, 1, 2, 3, 4, 5], [0, 1, 2, 3, 4, 5], [0, 1, 2, 3, 4, 5, 6, 7], [0, 1, 2, 3, 4, 5, 6, 7, 8], [0, 1, 2, 3, 4, 5, 6, 7, 8, 9], [0, 1, 2, 3, 4, 5, 6, 7, 8, 9, 10], [0, 1, 2, 3, 4, 5, 6, 7, 8, 9, 10, 11], [0, 1, 2, 3, 4, 5, 6, 7, 8, 9, 10], [0, 1, 2, 3, 4, 5, 6, 7, 8, 9, 10, 13], [0, 1, 2, 3, 4, 5, 6, 7, 8, 9, 10, 11, 12, 13, 14], [0, 1, 2, 3, 4, 5, 6, 7, 8, 9, 10, 11, 12, 13, 14, 15], [0, 1, 2, 3, 4, 5, 6, 7, 8, 9, 10, 11, 12, 13, 14, 15, 16], [0, 1, 2, 3, 4, 5, 6, 7, 8, 9, 10, 11, 12, 13, 14, 15, 16, 17], [0, 1, 2, 3, 4, 5, 6, 7, 8, 9, 10, 11, 12, 13, 14, 15, 16, 17, 18], [0, 1, 2, 3, 4, 5, 6, 7, 8, 9, 10, 11, 12, 13, 14, 15, 16, 17], [0, 1, 2, 3, 4, 5, 6, 7, 8, 9, 10, 11, 12, 13, 14, 15, 16, 17, 18, 19, 20], [0, 1, 2, 3, 4, 5, 6, 7, 8, 9, 10, 11, 12, 13, 14, 15, 16, 17, 18, 19, 20, 21], [0, 1, 2, 3, 4, 5, 6, 7, 8, 9, 10, 11, 12, 13, 14, 15, 16, 17, 18, 19, 20, 21, 22], [0, 1, 2, 3, 4, 5, 6, 7, 8, 9, 10, 11, 12, 13, 14, 15, 16, 17, 18, 19, 20, 21, 22, 23]])
  .ret))))
noncomputable def f3 : AFn := ⟨45, [.tmp 4], b3⟩
/-- novation/novationlaw6.EventDrawn -/
noncomputable def b4 : AC :=
  .seq (.region [⟨some 6, .assign (.const (.bool false)), 4, none, true⟩])
  (.seq (.seq (.region [⟨some 9, .call (⟨.value (.func 9), #[], #[]⟩), 4, none, true⟩, ⟨some 10, .unOp .not 4 (.tmp 9), 4, none, true⟩])
  (.cond (.tmp 10) (.seq (.region [⟨some 6, .assign (.const (.bool false)), 4, none, true⟩])
  .ret) .skip))
  (.seq (.region [⟨some 11, .move (.tmp 0), 32, none, true⟩, ⟨some 12, .call (⟨.value (.func 16), #[.tmp 11], #[32]⟩), 33, none, true⟩, ⟨some 7, .assign (.tmp 12), 33, none, true⟩])
  (.seq (.region [⟨some 13, .move (.tmp 7), 33, none, true⟩, ⟨some 14, .move (.tmp 7), 33, none, true⟩, ⟨some 15, .call (⟨.value (.func 18), #[.tmp 14], #[33]⟩), 38, none, true⟩, ⟨some 16, .call (⟨.value (.func 17), #[.tmp 13, .tmp 15], #[33, 38]⟩), 23, none, true⟩, ⟨some 8, .alloc 23, 0, none, true⟩, ⟨none, .store 23 (.tmp 8) (.tmp 16), 0, none, true⟩])
  (.seq (.seq (.region [⟨some 17, .load 23 (.tmp 8), 23, none, true⟩, ⟨some 18, .fieldAddr 23 (.tmp 8) 0, 0, none, true⟩, ⟨some 19, .load 3 (.tmp 18), 3, none, true⟩, ⟨some 20, .call (⟨.value (.func 3), #[.tmp 17, .tmp 19], #[23, 3]⟩), 4, none, true⟩, ⟨some 21, .unOp .not 4 (.tmp 20), 4, none, true⟩, ⟨some 22, .move (.tmp 21), 4, none, true⟩, ⟨some 23, .load 23 (.tmp 8), 23, some (some 22), false⟩, ⟨some 24, .call (⟨.value (.func 12), #[.tmp 23], #[23]⟩), 4, some (some 22), false⟩, ⟨some 25, .unOp .not 4 (.tmp 24), 4, some (some 22), false⟩, ⟨some 26, .pick (.tmp 22) (.const (.bool true)) (.tmp 25), 4, none, true⟩])
  (.cond (.tmp 26) (.seq (.region [⟨some 6, .assign (.const (.bool false)), 4, none, true⟩])
  .ret) .skip))
  (.seq (.seq (.region [⟨some 27, .move (.tmp 1), 5, none, true⟩, ⟨some 28, .binOp .rem 5 (.tmp 27) (.const (.int .u8 8)) 5, 5, none, true⟩])
  (.block 0 (.seq (.region [⟨some 32, .binOp .eql 5 (.tmp 28) (.const (.int .u8 0)) 5, 4, none, true⟩, ⟨some 31, .assign (.tmp 32), 4, none, true⟩])
  (.cond (.tmp 31) (.region [⟨some 33, .move (.tmp 2), 2, none, true⟩, ⟨some 34, .fieldAddr 23 (.tmp 8) 0, 0, none, true⟩, ⟨none, .store 3 (.tmp 34) (.tmp 33), 0, none, true⟩]) (.seq (.region [⟨some 36, .binOp .eql 5 (.tmp 28) (.const (.int .u8 1)) 5, 4, none, true⟩, ⟨some 35, .assign (.tmp 36), 4, none, true⟩])
  (.cond (.tmp 35) (.region [⟨some 37, .move (.tmp 2), 2, none, true⟩, ⟨some 38, .fieldAddr 23 (.tmp 8) 1, 0, none, true⟩, ⟨none, .store 3 (.tmp 38) (.tmp 37), 0, none, true⟩]) (.seq (.region [⟨some 40, .binOp .eql 5 (.tmp 28) (.const (.int .u8 2)) 5, 4, none, true⟩, ⟨some 39, .assign (.tmp 40), 4, none, true⟩])
  (.cond (.tmp 39) (.region [⟨some 41, .move (.tmp 2), 2, none, true⟩, ⟨some 42, .fieldAddr 23 (.tmp 8) 2, 0, none, true⟩, ⟨none, .store 3 (.tmp 42) (.tmp 41), 0, none, true⟩]) (.seq (.region [⟨some 44, .binOp .eql 5 (.tmp 28) (.const (.int .u8 3)) 5, 4, none, true⟩, ⟨some 43, .assign (.tmp 44), 4, none, true⟩])
  (.cond (.tmp 43) (.region [⟨some 45, .move (.tmp 2), 2, none, true⟩, ⟨some 46, .fieldAddr 23 (.tmp 8) 3, 0, none, true⟩, ⟨none, .store 3 (.tmp 46) (.tmp 45), 0, none, true⟩]) (.seq (.region [⟨some 48, .binOp .eql 5 (.tmp 28) (.const (.int .u8 4)) 5, 4, none, true⟩, ⟨some 47, .assign (.tmp 48), 4, none, true⟩])
  (.cond (.tmp 47) (.region [⟨some 49, .move (.tmp 2), 2, none, true⟩, ⟨some 50, .fieldAddr 23 (.tmp 8) 4, 0, none, true⟩, ⟨none, .store 3 (.tmp 50) (.tmp 49), 0, none, true⟩]) (.seq (.region [⟨some 52, .binOp .eql 5 (.tmp 28) (.const (.int .u8 5)) 5, 4, none, true⟩, ⟨some 51, .assign (.tmp 52), 4, none, true⟩])
  (.cond (.tmp 51) (.region [⟨some 53, .move (.tmp 2), 2, none, true⟩, ⟨some 54, .fieldAddr 23 (.tmp 8) 5, 0, none, true⟩, ⟨none, .store 2 (.tmp 54) (.tmp 53), 0, none, true⟩]) (.seq (.region [⟨some 56, .binOp .eql 5 (.tmp 28) (.const (.int .u8 6)) 5, 4, none, true⟩, ⟨some 55, .assign (.tmp 56), 4, none, true⟩])
  (.cond (.tmp 55) (.region [⟨some 57, .move (.tmp 2), 2, none, true⟩, ⟨some 58, .fieldAddr 23 (.tmp 8) 6, 0, none, true⟩, ⟨none, .store 2 (.tmp 58) (.tmp 57), 0, none, true⟩]) (.region [⟨some 29, .move (.tmp 2), 2, none, true⟩, ⟨some 30, .fieldAddr 23 (.tmp 8) 7, 0, none, true⟩, ⟨none, .store 2 (.tmp 30) (.tmp 29), 0, none, true⟩])))))))))))))))))
  (.seq (.region [⟨some 59, .load 23 (.tmp 8), 23, none, true⟩, ⟨some 60, .move (.tmp 2), 2, none, true⟩, ⟨some 61, .call (⟨.value (.func 3), #[.tmp 59, .tmp 60], #[23, 3]⟩), 4, none, true⟩, ⟨some 6, .assign (.tmp 61), 4, none, true⟩])
  .ret))))))
noncomputable def f4 : AFn := ⟨62, [.tmp 6], b4⟩
/-- novation/novationlaw6.EventReads -/
noncomputable def b5 : AC :=
  .seq (.region [⟨some 2, .assign (.const (.bool false)), 4, none, true⟩])
  (.seq (.seq (.region [⟨some 3, .call (⟨.value (.func 9), #[], #[]⟩), 4, none, true⟩, ⟨some 4, .unOp .not 4 (.tmp 3), 4, none, true⟩])
  (.cond (.tmp 4) (.seq (.region [⟨some 2, .assign (.const (.bool false)), 4, none, true⟩])
  .ret) .skip))
  (.seq (.seq (.region [⟨some 5, .move (.tmp 0), 25, none, true⟩, ⟨some 6, .call (⟨.builtin .len, #[.tmp 5], #[25]⟩), 3, none, true⟩, ⟨some 7, .binOp .gtr 3 (.tmp 6) (.const (.int .i64 200)) 3, 4, none, true⟩])
  (.cond (.tmp 7) (.seq (.region [⟨some 2, .assign (.const (.bool true)), 4, none, true⟩])
  .ret) .skip))
  (.seq (.region [⟨some 8, .move (.tmp 0), 25, none, true⟩, ⟨some 9, .call (⟨.value (.func 19), #[.tmp 8], #[25]⟩), 4, none, true⟩, ⟨some 2, .assign (.tmp 9), 4, none, true⟩])
  .ret)))
noncomputable def f5 : AFn := ⟨10, [.tmp 2], b5⟩
/-- novation/novationlaw6.EventBack -/
noncomputable def b6 : AC :=
  .seq (.region [⟨some 2, .assign (.const (.bool false)), 4, none, true⟩])
  (.seq (.seq (.region [⟨some 9, .call (⟨.value (.func 9), #[], #[]⟩), 4, none, true⟩, ⟨some 10, .unOp .not 4 (.tmp 9), 4, none, true⟩])
  (.cond (.tmp 10) (.seq (.region [⟨some 2, .assign (.const (.bool false)), 4, none, true⟩])
  .ret) .skip))
  (.seq (.region [⟨some 11, .move (.tmp 0), 32, none, true⟩, ⟨some 12, .call (⟨.value (.func 16), #[.tmp 11], #[32]⟩), 33, none, true⟩, ⟨some 3, .assign (.tmp 12), 33, none, true⟩])
  (.seq (.region [⟨some 13, .move (.tmp 3), 33, none, true⟩, ⟨some 14, .move (.tmp 3), 33, none, true⟩, ⟨some 15, .call (⟨.value (.func 18), #[.tmp 14], #[33]⟩), 38, none, true⟩, ⟨some 16, .call (⟨.value (.func 17), #[.tmp 13, .tmp 15], #[33, 38]⟩), 23, none, true⟩, ⟨some 4, .alloc 23, 0, none, true⟩, ⟨none, .store 23 (.tmp 4) (.tmp 16), 0, none, true⟩])
  (.seq (.region [⟨some 18, .load 23 (.tmp 4), 23, none, true⟩, ⟨some 19, .call (⟨.value (.func 10), #[.tmp 18], #[23]⟩), 27, none, true⟩, ⟨some 17, .move (.tmp 19), 27, none, true⟩, ⟨some 20, .extract (.tmp 17) 0, 25, none, true⟩, ⟨some 21, .extract (.tmp 17) 1, 26, none, true⟩, ⟨some 5, .assign (.tmp 20), 25, none, true⟩, ⟨some 6, .assign (.tmp 21), 26, none, true⟩])
  (.seq (.region [⟨some 23, .move (.tmp 5), 25, none, true⟩, ⟨some 24, .call (⟨.value (.func 20), #[.tmp 23], #[25]⟩), 42, none, true⟩, ⟨some 22, .move (.tmp 24), 42, none, true⟩, ⟨some 25, .extract (.tmp 22) 0, 23, none, true⟩, ⟨some 26, .extract (.tmp 22) 1, 26, none, true⟩, ⟨some 7, .alloc 23, 0, none, true⟩, ⟨none, .store 23 (.tmp 7) (.tmp 25), 0, none, true⟩, ⟨some 8, .assign (.tmp 26), 26, none, true⟩])
  (.seq (.draw (drawOf T.c6 7) [0, 1, 2, 3, 4, 5, 6, 7, 8, 9, 10, 11, 12, 13, 14, 15, 16, 17, 18, 19, 20, 21, 22, 23, 24, 25] [[], [0], [0, 1], [0, 1, 2], [0, 1, 2, 3], [0, 1, 2, 3, 4], [0, 1, 2, 3, 4, 5], [0, 1, 2, 3, 4, 5, 6], [0, 1, 2, 3, 4, 5, 6], [0, 1, 2, 3, 4, 5, 6, 7, 8], [0, 1, 2, 3, 4, 5, 6, 7, 8, 9], [0, 1, 2, 3, 4, 5, 6, 7, 8, 9, 10], [0, 1, 2, 3, 4, 5, 6, 7, 8, 9, 10, 11], [0, 1, 2, 3, 4, 5, 6, 7, 8, 9, 10, 11, 12], [0, 1, 2, 3, 4, 5, 6, 7, 8, 9, 10, 11, 12, 13], [0, 1, 2, 3, 4, 5, 6, 7, 8, 9, 10, 11, 12, 13, 14], [0, 1, 2, 3, 4, 5, 6, 7, 8, 9, 10, 11, 12, 13, 14, 15], [0, 1, 2, 3, 4, 5, 6, 7, 8, 9, 10, 11, 12, 13, 14, 15, 16], [0, 1, 2, 3, 4, 5, 6, 7, 8, 9, 10, 11, 12, 13, 14, 15, 16, 17], [0, 1, 2, 3, 4, 5, 6, 7, 8, 9, 10, 11, 12, 13, 14, 15, 16, 17, 18], [0, 1, 2, 3, 4, 5, 6, 7, 8, 9, 10, 11, 12, 13, 14, 15, 16, 17, 18, 19], [0, 1, 2, 3, 4, 5, 6, 7, 8, 9, 10, 11, 12, 13, 14, 15, 16], [0, 1, 2, 3, 4, 5, 6, 7, 8, 9, 10, 11, 12, 13, 14, 15, 16, 21], [0, 1, 2, 3, 4, 5, 6, 7, 8, 9, 10, 11, 12, 13, 14, 15, 16, 17, 18, 19, 20, 21, 22], [0, 1, 2, 3, 4, 5, 6, 7, 8, 9, 10, 11, 12, 13, 14, 15, 16, 17, 18, 19, 20, 21, 22, 23], [0, 1, 2, 3, 4, 5, 6, 7, 8, 9, 10, 11, 12, 13, 14, 15, 16, 17, 18, 19, 20, 21, 22, 23, 24]])
  .ret))))))
noncomputable def f6 : AFn := ⟨52, [.tmp 2], b6⟩
/-- novation/novationlaw6.EventSpoilt -/
noncomputable def b7 : AC :=
  .seq (.region [⟨some 8, .assign (.const (.bool false)), 4, none, true⟩])
  (.seq (.seq (.region [⟨some 18, .call (⟨.value (.func 9), #[], #[]⟩), 4, none, true⟩, ⟨some 19, .unOp .not 4 (.tmp 18), 4, none, true⟩])
  (.cond (.tmp 19) (.seq (.region [⟨some 8, .assign (.const (.bool false)), 4, none, true⟩])
  .ret) .skip))
  (.seq (.region [⟨some 20, .move (.tmp 0), 32, none, true⟩, ⟨some 21, .call (⟨.value (.func 16), #[.tmp 20], #[32]⟩), 33, none, true⟩, ⟨some 9, .assign (.tmp 21), 33, none, true⟩])
  (.seq (.region [⟨some 23, .move (.tmp 9), 33, none, true⟩, ⟨some 24, .move (.tmp 9), 33, none, true⟩, ⟨some 25, .call (⟨.value (.func 18), #[.tmp 24], #[33]⟩), 38, none, true⟩, ⟨some 26, .call (⟨.value (.func 17), #[.tmp 23, .tmp 25], #[33, 38]⟩), 23, none, true⟩, ⟨some 27, .call (⟨.value (.func 10), #[.tmp 26], #[23]⟩), 27, none, true⟩, ⟨some 22, .move (.tmp 27), 27, none, true⟩, ⟨some 28, .extract (.tmp 22) 0, 25, none, true⟩, ⟨some 29, .extract (.tmp 22) 1, 26, none, true⟩, ⟨some 10, .assign (.tmp 28), 25, none, true⟩, ⟨some 11, .assign (.tmp 29), 26, none, true⟩])
  (.seq (.seq (.region [⟨some 30, .move (.tmp 11), 26, none, true⟩, ⟨some 31, .binOp .neq 26 (.tmp 30) (.const (.int .i64 0)) 26, 4, none, true⟩, ⟨some 32, .move (.tmp 31), 4, none, true⟩, ⟨some 33, .move (.tmp 10), 25, some (some 32), false⟩, ⟨some 34, .call (⟨.builtin .len, #[.tmp 33], #[25]⟩), 3, some (some 32), false⟩, ⟨some 35, .binOp .eql 3 (.tmp 34) (.const (.int .i64 0)) 3, 4, some (some 32), false⟩, ⟨some 36, .pick (.tmp 32) (.const (.bool true)) (.tmp 35), 4, none, true⟩])
  (.cond (.tmp 36) (.seq (.region [⟨some 8, .assign (.const (.bool false)), 4, none, true⟩])
  .ret) .skip))
  (.seq (.region [⟨some 37, .move (.tmp 1), 5, none, true⟩, ⟨some 38, .convert 5 3 (.tmp 37), 3, none, true⟩, ⟨some 39, .move (.tmp 10), 25, none, true⟩, ⟨some 40, .call (⟨.builtin .len, #[.tmp 39], #[25]⟩), 3, none, true⟩, ⟨some 41, .binOp .rem 3 (.tmp 38) (.tmp 40) 3, 3, none, true⟩, ⟨some 12, .assign (.tmp 41), 3, none, true⟩])
  (.seq (.region [⟨some 42, .buildSlice 25 0 #[], 25, none, true⟩, ⟨some 43, .move (.tmp 10), 25, none, true⟩, ⟨some 44, .call (⟨.builtin .append, #[.tmp 42, .tmp 43], #[25, 25]⟩), 25, none, true⟩, ⟨some 13, .assign (.tmp 44), 25, none, true⟩])
  (.seq (.seq (.region [⟨some 45, .move (.tmp 3), 5, none, true⟩, ⟨some 46, .binOp .rem 5 (.tmp 45) (.const (.int .u8 3)) 5, 5, none, true⟩])
  (.block 0 (.seq (.region [⟨some 60, .binOp .eql 5 (.tmp 46) (.const (.int .u8 0)) 5, 4, none, true⟩, ⟨some 59, .assign (.tmp 60), 4, none, true⟩])
  (.cond (.tmp 59) (.region [⟨some 61, .move (.tmp 13), 25, none, true⟩, ⟨some 62, .move (.tmp 12), 3, none, true⟩, ⟨some 63, .indexAddr 25 (.tmp 61) (.tmp 62), 0, none, true⟩, ⟨some 64, .load 5 (.tmp 63), 5, none, true⟩, ⟨some 65, .move (.tmp 2), 5, none, true⟩, ⟨some 66, .binOp .xor 5 (.tmp 64) (.tmp 65) 5, 5, none, true⟩, ⟨some 67, .indexAddr 25 (.tmp 61) (.tmp 62), 0, none, true⟩, ⟨none, .store 5 (.tmp 67) (.tmp 66), 0, none, true⟩]) (.seq (.region [⟨some 69, .binOp .eql 5 (.tmp 46) (.const (.int .u8 1)) 5, 4, none, true⟩, ⟨some 68, .assign (.tmp 69), 4, none, true⟩])
  (.cond (.tmp 68) (.draw (drawOf T.c7 14) [0, 1, 2, 3, 4, 5, 6, 7, 8] [[], [], [0, 1], [], [], [4], [3, 4, 5], [0, 1, 2, 3, 4, 5, 6], [0, 1, 2, 3, 4, 5, 6, 7]]) (.draw (drawOf T.c7 10) [0, 1, 2, 3, 5, 8, 9, 10, 4, 6, 7, 11, 12] [[], [], [], [1, 2], [0, 1, 2, 3], [], [5], [0, 1, 2, 3, 4, 5, 6], [], [], [8, 9], [0, 1, 2, 3, 4, 5, 6, 7, 8, 9, 10], [0, 1, 2, 3, 4, 5, 6, 7, 8, 9, 10, 11]])))))))
  (.seq (.seq (.region [⟨some 79, .move (.tmp 13), 25, none, true⟩, ⟨some 80, .call (⟨.value (.func 20), #[.tmp 79], #[25]⟩), 42, none, true⟩, ⟨some 78, .move (.tmp 80), 42, none, true⟩, ⟨some 81, .extract (.tmp 78) 0, 23, none, true⟩, ⟨some 82, .extract (.tmp 78) 1, 26, none, true⟩, ⟨some 14, .alloc 23, 0, none, true⟩, ⟨none, .store 23 (.tmp 14) (.tmp 81), 0, none, true⟩, ⟨some 15, .assign (.tmp 82), 26, none, true⟩])
  (.seq (.region [⟨some 83, .move (.tmp 15), 26, none, true⟩, ⟨some 84, .binOp .eql 26 (.tmp 83) (.const (.int .i64 0)) 26, 4, none, true⟩])
  (.cond (.tmp 84) (.seq (.region [⟨some 86, .load 23 (.tmp 14), 23, none, true⟩, ⟨some 87, .call (⟨.value (.func 10), #[.tmp 86], #[23]⟩), 27, none, true⟩, ⟨some 85, .move (.tmp 87), 27, none, true⟩, ⟨some 88, .extract (.tmp 85) 0, 25, none, true⟩, ⟨some 89, .extract (.tmp 85) 1, 26, none, true⟩, ⟨some 16, .assign (.tmp 88), 25, none, true⟩, ⟨some 17, .assign (.tmp 89), 26, none, true⟩])
  (.seq (.region [⟨some 90, .move (.tmp 17), 26, none, true⟩, ⟨some 91, .binOp .neq 26 (.tmp 90) (.const (.int .i64 0)) 26, 4, none, true⟩, ⟨some 92, .move (.tmp 91), 4, none, true⟩, ⟨some 93, .move (.tmp 16), 25, some (some 92), false⟩, ⟨some 94, .convert 25 9 (.tmp 93), 9, some (some 92), false⟩, ⟨some 95, .move (.tmp 13), 25, some (some 92), false⟩, ⟨some 96, .convert 25 9 (.tmp 95), 9, some (some 92), false⟩, ⟨some 97, .binOp .neq 9 (.tmp 94) (.tmp 96) 9, 4, some (some 92), false⟩, ⟨some 98, .pick (.tmp 92) (.const (.bool true)) (.tmp 97), 4, none, true⟩])
  (.cond (.tmp 98) (.seq (.region [⟨some 8, .assign (.const (.bool false)), 4, none, true⟩])
  .ret) .skip))) .skip)))
  (.seq (.region [⟨some 99, .move (.tmp 13), 25, none, true⟩, ⟨some 100, .call (⟨.value (.func 19), #[.tmp 99], #[25]⟩), 4, none, true⟩, ⟨some 8, .assign (.tmp 100), 4, none, true⟩])
  .ret)))))))))
noncomputable def f7 : AFn := ⟨101, [.tmp 8], b7⟩
/-- novation/novationlaw6.EventNumbers -/
noncomputable def b8 : AC :=
  .seq (.region [⟨some 4, .assign (.const (.bool false)), 4, none, true⟩])
  (.seq (.seq (.region [⟨some 7, .call (⟨.value (.func 9), #[], #[]⟩), 4, none, true⟩, ⟨some 8, .unOp .not 4 (.tmp 7), 4, none, true⟩])
  (.cond (.tmp 8) (.seq (.region [⟨some 4, .assign (.const (.bool false)), 4, none, true⟩])
  .ret) .skip))
  (.seq (.seq (.region [⟨some 9, .move (.tmp 0), 25, none, true⟩, ⟨some 10, .call (⟨.builtin .len, #[.tmp 9], #[25]⟩), 3, none, true⟩, ⟨some 11, .binOp .gtr 3 (.tmp 10) (.const (.int .i64 100)) 3, 4, none, true⟩])
  (.cond (.tmp 11) (.seq (.region [⟨some 4, .assign (.const (.bool true)), 4, none, true⟩])
  .ret) .skip))
  (.seq (.region [⟨some 12, .buildSlice 25 0 #[], 25, none, true⟩, ⟨some 13, .move (.tmp 0), 25, none, true⟩, ⟨some 14, .call (⟨.builtin .append, #[.tmp 12, .tmp 13], #[25, 25]⟩), 25, none, true⟩, ⟨some 15, .buildSlice 25 2 #[(0, .const (.int .u8 7)), (1, .const (.int .u8 7))], 25, none, true⟩, ⟨some 16, .call (⟨.builtin .append, #[.tmp 14, .tmp 15], #[25, 25]⟩), 25, none, true⟩, ⟨some 17, .move (.tmp 0), 25, none, true⟩, ⟨some 18, .call (⟨.builtin .len, #[.tmp 17], #[25]⟩), 3, none, true⟩, ⟨some 19, .slice 25 (.tmp 16) none (some (.tmp 18)) none, 25, none, true⟩, ⟨some 5, .assign (.tmp 19), 25, none, true⟩])
  (.seq (.region [⟨some 20, .move (.tmp 5), 25, none, true⟩, ⟨some 21, .move (.tmp 1), 2, none, true⟩, ⟨some 22, .call (⟨.value (.func 21), #[.tmp 20, .tmp 21], #[25, 2]⟩), 25, none, true⟩, ⟨some 6, .assign (.tmp 22), 25, none, true⟩])
  (.seq (.draw (drawOf T.c8 7) [0, 1, 2, 3, 4, 5, 6, 7, 8, 9, 10, 11, 12, 13, 14, 15, 16, 17, 18, 19] [[], [0], [], [], [2, 3], [2, 3, 4], [0, 1, 2, 3, 4, 5], [0, 1, 2, 3, 4, 5, 6], [0, 1, 2, 3, 4, 5, 6, 7], [0, 1, 2, 3, 4, 5, 6, 7], [0, 1, 2, 3, 4, 5, 6, 7, 9], [0, 1, 2, 3, 4, 5, 6, 7, 9, 10], [0, 1, 2, 3, 4, 5, 6, 7, 8, 9, 10, 11], [0, 1, 2, 3, 4, 5, 6, 7, 8, 9, 10, 11, 12], [0, 1, 2, 3, 4, 5, 6, 7], [0, 1, 2, 3, 4, 5, 6, 7, 14], [0, 1, 2, 3, 4, 5, 6, 7, 14, 15], [0, 1, 2, 3, 4, 5, 6, 7, 8, 9, 10, 11, 12, 13, 14, 15, 16], [0, 1, 2, 3, 4, 5, 6, 7, 8, 9, 10, 11, 12, 13, 14, 15, 16, 17], [0, 1, 2, 3, 4, 5, 6, 7, 8, 9, 10, 11, 12, 13, 14, 15, 16, 17, 18]])
  .ret)))))
noncomputable def f8 : AFn := ⟨42, [.tmp 4], b8⟩
/-- novation/novationlaw6.known -/
noncomputable def b9 : AC :=
  .seq (.region [⟨some 0, .assign (.const (.bool false)), 4, none, true⟩])
  (.seq (.region [⟨some 10, .build 23 #[(0, .const (.int .i64 19)), (1, .const (.int .i64 2)), (5, .const (.int .i64 9)), (7, .const (.int .i64 (-1)))], 23, none, true⟩, ⟨some 1, .alloc 23, 0, none, true⟩, ⟨none, .store 23 (.tmp 1) (.tmp 10), 0, none, true⟩])
  (.seq (.region [⟨some 12, .load 23 (.tmp 1), 23, none, true⟩, ⟨some 13, .call (⟨.value (.func 10), #[.tmp 12], #[23]⟩), 27, none, true⟩, ⟨some 11, .move (.tmp 13), 27, none, true⟩, ⟨some 14, .extract (.tmp 11) 0, 25, none, true⟩, ⟨some 15, .extract (.tmp 11) 1, 26, none, true⟩, ⟨some 2, .assign (.tmp 14), 25, none, true⟩, ⟨some 3, .assign (.tmp 15), 26, none, true⟩])
  (.seq (.region [⟨some 17, .move (.tmp 2), 25, none, true⟩, ⟨some 18, .call (⟨.value (.func 20), #[.tmp 17], #[25]⟩), 42, none, true⟩, ⟨some 16, .move (.tmp 18), 42, none, true⟩, ⟨some 19, .extract (.tmp 16) 0, 23, none, true⟩, ⟨some 20, .extract (.tmp 16) 1, 26, none, true⟩, ⟨some 4, .alloc 23, 0, none, true⟩, ⟨none, .store 23 (.tmp 4) (.tmp 19), 0, none, true⟩, ⟨some 5, .assign (.tmp 20), 26, none, true⟩])
  (.seq (.region [⟨some 22, .build 23 #[], 23, none, true⟩, ⟨some 23, .call (⟨.value (.func 10), #[.tmp 22], #[23]⟩), 27, none, true⟩, ⟨some 21, .move (.tmp 23), 27, none, true⟩, ⟨some 24, .extract (.tmp 21) 0, 25, none, true⟩, ⟨some 25, .extract (.tmp 21) 1, 26, none, true⟩, ⟨some 6, .assign (.tmp 24), 25, none, true⟩, ⟨some 7, .assign (.tmp 25), 26, none, true⟩])
  (.seq (.region [⟨some 27, .call (⟨.value (.func 20), #[.const (.slice none 0 0)], #[25]⟩), 42, none, true⟩, ⟨some 26, .move (.tmp 27), 42, none, true⟩, ⟨some 28, .extract (.tmp 26) 0, 23, none, true⟩, ⟨some 29, .extract (.tmp 26) 1, 26, none, true⟩, ⟨some 8, .alloc 23, 0, none, true⟩, ⟨none, .store 23 (.tmp 8) (.tmp 28), 0, none, true⟩, ⟨some 9, .assign (.tmp 29), 26, none, true⟩])
  (.seq (.region [⟨some 30, .move (.tmp 3), 26, none, true⟩, ⟨some 31, .binOp .eql 26 (.tmp 30) (.const (.int .i64 0)) 26, 4, none, true⟩, ⟨some 32, .move (.tmp 31), 4, none, true⟩, ⟨some 33, .move (.tmp 2), 25, some (some 32), true⟩, ⟨some 34, .convert 25 9 (.tmp 33), 9, some (some 32), true⟩, ⟨some 35, .binOp .eql 9 (.tmp 34) (.const (.string (⟨#[19, 4, 18, 1]⟩))) 9, 4, some (some 32), true⟩, ⟨some 36, .pick (.tmp 32) (.tmp 35) (.const (.bool false)), 4, none, true⟩, ⟨some 37, .move (.tmp 36), 4, none, true⟩, ⟨some 38, .move (.tmp 5), 26, some (some 37), true⟩, ⟨some 39, .binOp .eql 26 (.tmp 38) (.const (.int .i64 0)) 26, 4, some (some 37), true⟩, ⟨some 40, .pick (.tmp 37) (.tmp 39) (.const (.bool false)), 4, none, true⟩, ⟨some 41, .move (.tmp 40), 4, none, true⟩, ⟨some 42, .load 23 (.tmp 4), 23, some (some 41), true⟩, ⟨some 43, .load 23 (.tmp 1), 23, some (some 41), true⟩, ⟨some 44, .binOp .eql 23 (.tmp 42) (.tmp 43) 23, 4, some (some 41), true⟩, ⟨some 45, .pick (.tmp 41) (.tmp 44) (.const (.bool false)), 4, none, true⟩, ⟨some 46, .move (.tmp 45), 4, none, true⟩, ⟨some 47, .load 23 (.tmp 1), 23, some (some 46), true⟩, ⟨some 48, .call (⟨.value (.func 12), #[.tmp 47], #[23]⟩), 4, some (some 46), true⟩, ⟨some 49, .pick (.tmp 46) (.tmp 48) (.const (.bool false)), 4, none, true⟩, ⟨some 50, .move (.tmp 49), 4, none, true⟩, ⟨some 51, .move (.tmp 7), 26, some (some 50), true⟩, ⟨some 52, .binOp .eql 26 (.tmp 51) (.const (.int .i64 1)) 26, 4, some (some 50), true⟩, ⟨some 53, .pick (.tmp 50) (.tmp 52) (.const (.bool false)), 4, none, true⟩, ⟨some 54, .move (.tmp 53), 4, none, true⟩, ⟨some 55, .move (.tmp 9), 26, some (some 54), true⟩, ⟨some 56, .binOp .eql 26 (.tmp 55) (.const (.int .i64 13)) 26, 4, some (some 54), true⟩, ⟨some 57, .pick (.tmp 54) (.tmp 56) (.const (.bool false)), 4, none, true⟩, ⟨some 58, .move (.tmp 57), 4, none, true⟩, ⟨some 59, .call (⟨.value (.func 14), #[.const (.int .i64 17)], #[3]⟩), 9, some (some 58), true⟩, ⟨some 60, .binOp .eql 9 (.tmp 59) (.const (.string (⟨#[65, 68, 81, 80]⟩))) 9, 4, some (some 58), true⟩, ⟨some 61, .pick (.tmp 58) (.tmp 60) (.const (.bool false)), 4, none, true⟩, ⟨some 62, .move (.tmp 61), 4, none, true⟩, ⟨some 63, .buildSlice 25 1 #[(0, .const (.int .u8 97))], 25, some (some 62), true⟩, ⟨some 64, .convert 25 25 (.tmp 63), 25, some (some 62), true⟩, ⟨some 65, .call (⟨.value (.func 21), #[.tmp 64, .const (.int .i64 300)], #[25, 2]⟩), 25, some (some 62), true⟩, ⟨some 66, .convert 25 9 (.tmp 65), 9, some (some 62), true⟩, ⟨some 67, .binOp .eql 9 (.tmp 66) (.const (.string (⟨#[97, 216, 4]⟩))) 9, 4, some (some 62), true⟩, ⟨some 68, .pick (.tmp 62) (.tmp 67) (.const (.bool false)), 4, none, true⟩, ⟨some 0, .assign (.tmp 68), 4, none, true⟩])
  .ret))))))
noncomputable def f9 : AFn := ⟨69, [.tmp 0], b9⟩
/-- novation/event.Put -/
noncomputable def b10 : AC :=
  .seq (.region [⟨some 1, .box 23 (.tmp 0), 0, none, true⟩, ⟨some 2, .assign (.const (.slice none 0 0)), 25, none, true⟩, ⟨some 3, .assign (.const (.int .i64 0)), 26, none, true⟩])
  (.seq (.seq (.region [⟨some 7, .load 23 (.tmp 1), 23, none, true⟩, ⟨some 8, .call (⟨.value (.func 12), #[.tmp 7], #[23]⟩), 4, none, true⟩, ⟨some 9, .unOp .not 4 (.tmp 8), 4, none, true⟩])
  (.cond (.tmp 9) (.seq (.region [⟨some 2, .assign (.const (.slice none 0 0)), 25, none, true⟩, ⟨some 3, .assign (.const (.int .i64 1)), 26, none, true⟩])
  .ret) .skip))
  (.seq (.region [⟨some 10, .fieldAddr 23 (.tmp 1) 0, 0, none, true⟩, ⟨some 11, .load 3 (.tmp 10), 3, none, true⟩, ⟨some 12, .convert 3 5 (.tmp 11), 5, none, true⟩, ⟨some 13, .buildSlice 25 1 #[(0, .tmp 12)], 25, none, true⟩, ⟨some 4, .assign (.tmp 13), 25, none, true⟩])
  (.seq (.seq (.region [⟨some 14, .fieldAddr 23 (.tmp 1) 0, 0, none, true⟩, ⟨some 15, .load 3 (.tmp 14), 3, none, true⟩, ⟨some 16, .call (⟨.value (.func 14), #[.tmp 15], #[3]⟩), 9, none, true⟩, ⟨some 17, .convert 9 25 (.tmp 16), 25, none, true⟩, ⟨some 18, .call (⟨.builtin .len, #[.tmp 17], #[25]⟩), 3, none, true⟩, ⟨some 19, .move (.const (.int .i64 0)), 3, none, true⟩])
  (.block 0 (.loop [false, true, false, false, true, false, false, false, false, false, false, false, false, false, false, false, false, true, true, true, false, false, false, false, false, false, false, false, false, false, false] (.seq (.region [⟨some 20, .binOp .lss 3 (.tmp 19) (.tmp 18) 3, 0, none, true⟩])
  (.seq (.cond (.tmp 20) .skip (.exit 0))
  (.seq (.block 1 (.seq (.region [⟨some 21, .indexAddr 25 (.tmp 17) (.tmp 19), 0, none, true⟩, ⟨some 22, .load 5 (.tmp 21), 5, none, true⟩, ⟨some 6, .assign (.tmp 22), 5, none, true⟩])
  (.region [⟨some 23, .move (.tmp 4), 25, none, true⟩, ⟨some 24, .load 23 (.tmp 1), 23, none, true⟩, ⟨some 25, .move (.tmp 6), 5, none, true⟩, ⟨some 26, .call (⟨.value (.func 23), #[.tmp 24, .tmp 25], #[23, 5]⟩), 2, none, true⟩, ⟨some 27, .call (⟨.value (.func 21), #[.tmp 23, .tmp 26], #[25, 2]⟩), 25, none, true⟩, ⟨some 4, .assign (.tmp 27), 25, none, true⟩])))
  (.region [⟨some 28, .binOp .add 3 (.tmp 19) (.const (.int .i64 1)) 3, 3, none, true⟩, ⟨some 19, .move (.tmp 28), 3, none, true⟩])))))))
  (.seq (.region [⟨some 29, .move (.tmp 4), 25, none, true⟩, ⟨some 30, .call (⟨.value (.func 24), #[.tmp 29], #[25]⟩), 25, none, true⟩, ⟨some 2, .assign (.tmp 30), 25, none, true⟩, ⟨some 3, .assign (.const (.int .i64 0)), 26, none, true⟩])
  .ret))))
noncomputable def f10 : AFn := ⟨31, [.tmp 2, .tmp 3], b10⟩
/-- novation/novationref4.PutEvent -/
noncomputable def b11 : AC :=
  .seq (.region [⟨some 1, .box 23 (.tmp 0), 0, none, true⟩, ⟨some 2, .assign (.const (.slice none 0 0)), 25, none, true⟩, ⟨some 3, .assign (.const (.int .i64 0)), 26, none, true⟩])
  (.seq (.seq (.region [⟨some 7, .load 23 (.tmp 1), 23, none, true⟩, ⟨some 8, .call (⟨.value (.func 13), #[.tmp 7], #[23]⟩), 4, none, true⟩, ⟨some 9, .unOp .not 4 (.tmp 8), 4, none, true⟩])
  (.cond (.tmp 9) (.seq (.region [⟨some 2, .assign (.const (.slice none 0 0)), 25, none, true⟩, ⟨some 3, .assign (.const (.int .i64 1)), 26, none, true⟩])
  .ret) .skip))
  (.seq (.region [⟨some 10, .fieldAddr 23 (.tmp 1) 0, 0, none, true⟩, ⟨some 11, .load 3 (.tmp 10), 3, none, true⟩, ⟨some 12, .convert 3 5 (.tmp 11), 5, none, true⟩, ⟨some 13, .buildSlice 25 1 #[(0, .tmp 12)], 25, none, true⟩, ⟨some 4, .assign (.tmp 13), 25, none, true⟩])
  (.seq (.region [⟨some 14, .fieldAddr 23 (.tmp 1) 0, 0, none, true⟩, ⟨some 15, .load 3 (.tmp 14), 3, none, true⟩, ⟨some 16, .call (⟨.value (.func 15), #[.tmp 15], #[3]⟩), 9, none, true⟩, ⟨some 5, .assign (.tmp 16), 9, none, true⟩])
  (.seq (.seq (.region [⟨some 6, .assign (.const (.int .i64 0)), 3, none, true⟩])
  (.block 0 (.loop [false, true, false, false, true, true, true, false, false, false, false, false, false, false, false, false, false, false, false, false, false, false, false, false, false, false, false, false, false, false, false] (.seq (.seq (.region [⟨some 17, .move (.tmp 6), 3, none, true⟩, ⟨some 18, .move (.tmp 5), 9, none, true⟩, ⟨some 19, .call (⟨.builtin .len, #[.tmp 18], #[9]⟩), 3, none, true⟩, ⟨some 20, .binOp .lss 3 (.tmp 17) (.tmp 19) 3, 4, none, true⟩])
  (.cond (.tmp 20) .skip (.exit 0)))
  (.seq (.block 1 (.draw (drawOf T.c11 8) [0, 1, 2, 3, 4, 5, 6, 7] [[], [], [], [], [2, 3], [1, 2, 3, 4], [0, 1, 2, 3, 4, 5], [0, 1, 2, 3, 4, 5, 6]]))
  (.region [⟨some 21, .move (.tmp 6), 3, none, true⟩, ⟨some 22, .binOp .add 3 (.tmp 21) (.const (.int .i64 1)) 3, 3, none, true⟩, ⟨some 6, .assign (.tmp 22), 3, none, true⟩]))))))
  (.seq (.region [⟨some 30, .move (.tmp 4), 25, none, true⟩, ⟨some 2, .assign (.tmp 30), 25, none, true⟩, ⟨some 3, .assign (.const (.int .i64 0)), 26, none, true⟩])
  .ret)))))
noncomputable def f11 : AFn := ⟨31, [.tmp 2, .tmp 3], b11⟩
/-- novation/event.Right -/
noncomputable def b12 : AC :=
  .seq (.region [⟨some 1, .box 23 (.tmp 0), 0, none, true⟩, ⟨some 2, .assign (.const (.bool false)), 4, none, true⟩])
  (.seq (.seq (.region [⟨some 9, .fieldAddr 23 (.tmp 1) 0, 0, none, true⟩, ⟨some 10, .load 3 (.tmp 9), 3, none, true⟩, ⟨some 11, .binOp .lss 3 (.tmp 10) (.const (.int .i64 1)) 3, 4, none, true⟩, ⟨some 12, .move (.tmp 11), 4, none, true⟩, ⟨some 13, .fieldAddr 23 (.tmp 1) 0, 0, some (some 12), false⟩, ⟨some 14, .load 3 (.tmp 13), 3, some (some 12), false⟩, ⟨some 15, .binOp .gtr 3 (.tmp 14) (.const (.int .i64 22)) 3, 4, some (some 12), false⟩, ⟨some 16, .pick (.tmp 12) (.const (.bool true)) (.tmp 15), 4, none, true⟩])
  (.cond (.tmp 16) (.seq (.region [⟨some 2, .assign (.const (.bool false)), 4, none, true⟩])
  .ret) .skip))
  (.seq (.region [⟨some 17, .fieldAddr 23 (.tmp 1) 0, 0, none, true⟩, ⟨some 18, .load 3 (.tmp 17), 3, none, true⟩, ⟨some 19, .build 23 #[(0, .tmp 18)], 23, none, true⟩, ⟨some 3, .alloc 23, 0, none, true⟩, ⟨none, .store 23 (.tmp 3) (.tmp 19), 0, none, true⟩])
  (.seq (.seq (.region [⟨some 20, .fieldAddr 23 (.tmp 1) 0, 0, none, true⟩, ⟨some 21, .load 3 (.tmp 20), 3, none, true⟩, ⟨some 22, .call (⟨.value (.func 14), #[.tmp 21], #[3]⟩), 9, none, true⟩, ⟨some 23, .convert 9 25 (.tmp 22), 25, none, true⟩, ⟨some 24, .call (⟨.builtin .len, #[.tmp 23], #[25]⟩), 3, none, true⟩, ⟨some 25, .move (.const (.int .i64 0)), 3, none, true⟩])
  (.block 0 (.loop [false, true, false, true, false, false, false, false, false, false, false, false, false, false, false, false, false, false, false, false, false, false, false, true, true, true, false, false, false, false, false, false, false, false, false, false, false, false, false, false, false, false, false, false, false, false, false, false, false, false, false, false, false, false, false] (.seq (.region [⟨some 26, .binOp .lss 3 (.tmp 25) (.tmp 24) 3, 0, none, true⟩])
  (.seq (.cond (.tmp 26) .skip (.exit 0))
  (.seq (.block 1 (.seq (.region [⟨some 27, .indexAddr 25 (.tmp 23) (.tmp 25), 0, none, true⟩, ⟨some 28, .load 5 (.tmp 27), 5, none, true⟩, ⟨some 5, .assign (.tmp 28), 5, none, true⟩])
  (.seq (.region [⟨some 29, .load 23 (.tmp 1), 23, none, true⟩, ⟨some 30, .move (.tmp 5), 5, none, true⟩, ⟨some 31, .call (⟨.value (.func 23), #[.tmp 29, .tmp 30], #[23, 5]⟩), 2, none, true⟩, ⟨some 6, .assign (.tmp 31), 2, none, true⟩])
  (.seq (.seq (.region [⟨some 33, .fieldAddr 23 (.tmp 1) 0, 0, none, true⟩, ⟨some 34, .load 3 (.tmp 33), 3, none, true⟩, ⟨some 35, .move (.tmp 5), 5, none, true⟩, ⟨some 36, .call (⟨.value (.func 26), #[.tmp 34, .tmp 35], #[3, 5]⟩), 50, none, true⟩, ⟨some 32, .move (.tmp 36), 50, none, true⟩, ⟨some 37, .extract (.tmp 32) 0, 2, none, true⟩, ⟨some 38, .extract (.tmp 32) 1, 2, none, true⟩, ⟨some 7, .assign (.tmp 37), 2, none, true⟩, ⟨some 8, .assign (.tmp 38), 2, none, true⟩])
  (.seq (.region [⟨some 39, .move (.tmp 6), 2, none, true⟩, ⟨some 40, .move (.tmp 7), 2, none, true⟩, ⟨some 41, .binOp .lss 2 (.tmp 39) (.tmp 40) 2, 4, none, true⟩, ⟨some 42, .move (.tmp 41), 4, none, true⟩, ⟨some 43, .move (.tmp 6), 2, some (some 42), false⟩, ⟨some 44, .move (.tmp 8), 2, some (some 42), false⟩, ⟨some 45, .binOp .gtr 2 (.tmp 43) (.tmp 44) 2, 4, some (some 42), false⟩, ⟨some 46, .pick (.tmp 42) (.const (.bool true)) (.tmp 45), 4, none, true⟩])
  (.cond (.tmp 46) (.seq (.region [⟨some 2, .assign (.const (.bool false)), 4, none, true⟩])
  .ret) .skip)))
  (.region [⟨some 47, .load 23 (.tmp 3), 23, none, true⟩, ⟨some 48, .move (.tmp 5), 5, none, true⟩, ⟨some 49, .move (.tmp 6), 2, none, true⟩, ⟨some 50, .call (⟨.value (.func 27), #[.tmp 47, .tmp 48, .tmp 49], #[23, 5, 2]⟩), 23, none, true⟩, ⟨none, .store 23 (.tmp 3) (.tmp 50), 0, none, true⟩])))))
  (.region [⟨some 51, .binOp .add 3 (.tmp 25) (.const (.int .i64 1)) 3, 3, none, true⟩, ⟨some 25, .move (.tmp 51), 3, none, true⟩])))))))
  (.seq (.region [⟨some 52, .load 23 (.tmp 3), 23, none, true⟩, ⟨some 53, .load 23 (.tmp 1), 23, none, true⟩, ⟨some 54, .binOp .eql 23 (.tmp 52) (.tmp 53) 23, 4, none, true⟩, ⟨some 2, .assign (.tmp 54), 4, none, true⟩])
  .ret))))
noncomputable def f12 : AFn := ⟨55, [.tmp 2], b12⟩
/-- novation/novationref4.Right -/
noncomputable def b13 : AC :=
  .seq (.region [⟨some 1, .box 23 (.tmp 0), 0, none, true⟩, ⟨some 2, .assign (.const (.bool false)), 4, none, true⟩])
  (.seq (.seq (.region [⟨some 9, .fieldAddr 23 (.tmp 1) 0, 0, none, true⟩, ⟨some 10, .load 3 (.tmp 9), 3, none, true⟩, ⟨some 11, .call (⟨.value (.func 28), #[.tmp 10], #[3]⟩), 4, none, true⟩, ⟨some 12, .unOp .not 4 (.tmp 11), 4, none, true⟩])
  (.cond (.tmp 12) (.seq (.region [⟨some 2, .assign (.const (.bool false)), 4, none, true⟩])
  .ret) .skip))
  (.seq (.region [⟨some 13, .fieldAddr 23 (.tmp 1) 0, 0, none, true⟩, ⟨some 14, .load 3 (.tmp 13), 3, none, true⟩, ⟨some 15, .call (⟨.value (.func 15), #[.tmp 14], #[3]⟩), 9, none, true⟩, ⟨some 3, .assign (.tmp 15), 9, none, true⟩])
  (.seq (.region [⟨some 16, .fieldAddr 23 (.tmp 1) 0, 0, none, true⟩, ⟨some 17, .load 3 (.tmp 16), 3, none, true⟩, ⟨some 18, .build 23 #[(0, .tmp 17)], 23, none, true⟩, ⟨some 4, .alloc 23, 0, none, true⟩, ⟨none, .store 23 (.tmp 4) (.tmp 18), 0, none, true⟩])
  (.seq (.seq (.region [⟨some 5, .assign (.const (.int .i64 0)), 3, none, true⟩])
  (.block 0 (.loop [false, true, false, true, true, true, false, false, false, false, false, false, false, false, false, false, false, false, false, false, false, false, false, false, false, false, false, false, false, false, false, false, false, false, false, false, false, false, false, false, false, false, false, false, false, false, false, false, false, false, false, false, false, false, false, false] (.seq (.seq (.region [⟨some 19, .move (.tmp 5), 3, none, true⟩, ⟨some 20, .move (.tmp 3), 9, none, true⟩, ⟨some 21, .call (⟨.builtin .len, #[.tmp 20], #[9]⟩), 3, none, true⟩, ⟨some 22, .binOp .lss 3 (.tmp 19) (.tmp 21) 3, 4, none, true⟩])
  (.cond (.tmp 22) .skip (.exit 0)))
  (.seq (.block 1 (.seq (.draw (drawOf T.c13 8) [0, 1, 2, 3, 4, 5, 6, 7, 8, 9, 10] [[], [0], [], [], [2, 3], [0, 1, 2, 3, 4], [0, 1, 2, 3, 4, 5], [0, 1, 2, 3, 4, 5, 6], [0, 1, 2, 3, 4, 5, 6], [0, 1, 2, 3, 4, 5, 6, 7], [0, 1, 2, 3, 4, 5, 6, 7, 8, 9]])
  (.seq (.draw (drawOf T.c13 9) [0, 1, 2, 3, 4, 5] [[], [], [], [1, 2], [0, 1, 2, 3], [0, 1, 2, 3, 4]])
  (.seq (.seq (.region [⟨some 39, .move (.tmp 8), 2, none, true⟩, ⟨some 40, .move (.tmp 6), 2, none, true⟩, ⟨some 41, .binOp .lss 2 (.tmp 39) (.tmp 40) 2, 4, none, true⟩, ⟨some 42, .move (.tmp 41), 4, none, true⟩, ⟨some 43, .move (.tmp 8), 2, some (some 42), false⟩, ⟨some 44, .move (.tmp 7), 2, some (some 42), false⟩, ⟨some 45, .binOp .gtr 2 (.tmp 43) (.tmp 44) 2, 4, some (some 42), false⟩, ⟨some 46, .pick (.tmp 42) (.const (.bool true)) (.tmp 45), 4, none, true⟩])
  (.cond (.tmp 46) (.seq (.region [⟨some 2, .assign (.const (.bool false)), 4, none, true⟩])
  .ret) .skip))
  (.draw (drawOf T.c13 12) [0, 1, 2, 3, 4, 5, 6] [[], [], [], [1, 2], [], [0, 1, 2, 3, 4], [0, 1, 2, 3, 4, 5]])))))
  (.region [⟨some 23, .move (.tmp 5), 3, none, true⟩, ⟨some 24, .binOp .add 3 (.tmp 23) (.const (.int .i64 1)) 3, 3, none, true⟩, ⟨some 5, .assign (.tmp 24), 3, none, true⟩]))))))
  (.seq (.region [⟨some 53, .load 23 (.tmp 4), 23, none, true⟩, ⟨some 54, .load 23 (.tmp 1), 23, none, true⟩, ⟨some 55, .binOp .eql 23 (.tmp 53) (.tmp 54) 23, 4, none, true⟩, ⟨some 2, .assign (.tmp 55), 4, none, true⟩])
  .ret)))))
noncomputable def f13 : AFn := ⟨56, [.tmp 2], b13⟩
/-- novation/event.Fields -/
noncomputable def b14 : AC :=
  .seq (.region [⟨some 2, .assign (.const (.string (⟨#[]⟩))), 9, none, true⟩])
  (.seq (.seq (.region [⟨some 3, .move (.tmp 0), 3, none, true⟩])
  (.block 0 (.seq (.seq (.region [⟨some 5, .binOp .eql 3 (.tmp 3) (.const (.int .i64 1)) 3, 4, none, true⟩, ⟨some 4, .assign (.tmp 5), 4, none, true⟩])
  (.cond (.tmp 4) .skip (.seq (.region [⟨some 6, .binOp .eql 3 (.tmp 3) (.const (.int .i64 11)) 3, 4, none, true⟩, ⟨some 4, .assign (.tmp 6), 4, none, true⟩])
  (.cond (.tmp 4) .skip (.seq (.region [⟨some 7, .binOp .eql 3 (.tmp 3) (.const (.int .i64 12)) 3, 4, none, true⟩, ⟨some 4, .assign (.tmp 7), 4, none, true⟩])
  (.cond (.tmp 4) .skip (.region [⟨some 8, .binOp .eql 3 (.tmp 3) (.const (.int .i64 13)) 3, 4, none, true⟩, ⟨some 4, .assign (.tmp 8), 4, none, true⟩])))))))
  (.cond (.tmp 4) (.seq (.region [⟨some 2, .assign (.const (.string (⟨#[77]⟩))), 9, none, true⟩])
  .ret) (.seq (.region [⟨some 10, .binOp .eql 3 (.tmp 3) (.const (.int .i64 2)) 3, 4, none, true⟩, ⟨some 9, .assign (.tmp 10), 4, none, true⟩])
  (.cond (.tmp 9) (.seq (.region [⟨some 2, .assign (.const (.string (⟨#[77, 65, 83]⟩))), 9, none, true⟩])
  .ret) (.seq (.seq (.region [⟨some 12, .binOp .eql 3 (.tmp 3) (.const (.int .i64 3)) 3, 4, none, true⟩, ⟨some 11, .assign (.tmp 12), 4, none, true⟩])
  (.cond (.tmp 11) .skip (.seq (.region [⟨some 13, .binOp .eql 3 (.tmp 3) (.const (.int .i64 4)) 3, 4, none, true⟩, ⟨some 11, .assign (.tmp 13), 4, none, true⟩])
  (.cond (.tmp 11) .skip (.region [⟨some 14, .binOp .eql 3 (.tmp 3) (.const (.int .i64 6)) 3, 4, none, true⟩, ⟨some 11, .assign (.tmp 14), 4, none, true⟩])))))
  (.cond (.tmp 11) (.seq (.region [⟨some 2, .assign (.const (.string (⟨#[65, 81]⟩))), 9, none, true⟩])
  .ret) (.seq (.seq (.region [⟨some 16, .binOp .eql 3 (.tmp 3) (.const (.int .i64 5)) 3, 4, none, true⟩, ⟨some 15, .assign (.tmp 16), 4, none, true⟩])
  (.cond (.tmp 15) .skip (.region [⟨some 17, .binOp .eql 3 (.tmp 3) (.const (.int .i64 22)) 3, 4, none, true⟩, ⟨some 15, .assign (.tmp 17), 4, none, true⟩])))
  (.cond (.tmp 15) (.seq (.region [⟨some 2, .assign (.const (.string (⟨#[77, 81]⟩))), 9, none, true⟩])
  .ret) (.seq (.region [⟨some 19, .binOp .eql 3 (.tmp 3) (.const (.int .i64 7)) 3, 4, none, true⟩, ⟨some 18, .assign (.tmp 19), 4, none, true⟩])
  (.cond (.tmp 18) (.seq (.region [⟨some 2, .assign (.const (.string (⟨#[65, 73, 83, 81, 80]⟩))), 9, none, true⟩])
  .ret) (.seq (.region [⟨some 21, .binOp .eql 3 (.tmp 3) (.const (.int .i64 8)) 3, 4, none, true⟩, ⟨some 20, .assign (.tmp 21), 4, none, true⟩])
  (.cond (.tmp 20) (.seq (.region [⟨some 2, .assign (.const (.string (⟨#[65, 68]⟩))), 9, none, true⟩])
  .ret) (.seq (.region [⟨some 23, .binOp .eql 3 (.tmp 3) (.const (.int .i64 9)) 3, 4, none, true⟩, ⟨some 22, .assign (.tmp 23), 4, none, true⟩])
  (.cond (.tmp 22) (.seq (.region [⟨some 2, .assign (.const (.string (⟨#[73, 80]⟩))), 9, none, true⟩])
  .ret) (.seq (.region [⟨some 25, .binOp .eql 3 (.tmp 3) (.const (.int .i64 10)) 3, 4, none, true⟩, ⟨some 24, .assign (.tmp 25), 4, none, true⟩])
  (.cond (.tmp 24) (.seq (.region [⟨some 2, .assign (.const (.string (⟨#[81]⟩))), 9, none, true⟩])
  .ret) (.seq (.region [⟨some 27, .binOp .eql 3 (.tmp 3) (.const (.int .i64 14)) 3, 4, none, true⟩, ⟨some 26, .assign (.tmp 27), 4, none, true⟩])
  (.cond (.tmp 26) (.seq (.region [⟨some 2, .assign (.const (.string (⟨#[77, 65]⟩))), 9, none, true⟩])
  .ret) (.seq (.region [⟨some 29, .binOp .eql 3 (.tmp 3) (.const (.int .i64 17)) 3, 4, none, true⟩, ⟨some 28, .assign (.tmp 29), 4, none, true⟩])
  (.cond (.tmp 28) (.seq (.region [⟨some 2, .assign (.const (.string (⟨#[65, 68, 81, 80]⟩))), 9, none, true⟩])
  .ret) (.seq (.region [⟨some 31, .binOp .eql 3 (.tmp 3) (.const (.int .i64 19)) 3, 4, none, true⟩, ⟨some 30, .assign (.tmp 31), 4, none, true⟩])
  (.cond (.tmp 30) (.seq (.region [⟨some 2, .assign (.const (.string (⟨#[77, 68, 80]⟩))), 9, none, true⟩])
  .ret) .skip))))))))))))))))))))))))
  (.seq (.region [⟨some 2, .assign (.const (.string (⟨#[]⟩))), 9, none, true⟩])
  .ret))
noncomputable def f14 : AFn := ⟨32, [.tmp 2], b14⟩
/-- novation/novationref4.Fields -/
noncomputable def b15 : AC :=
  .seq (.region [⟨some 2, .assign (.const (.string (⟨#[]⟩))), 9, none, true⟩])
  (.seq (.seq (.region [⟨some 3, .move (.tmp 0), 3, none, true⟩])
  (.block 0 (.seq (.seq (.region [⟨some 5, .binOp .eql 3 (.tmp 3) (.const (.int .i64 1)) 3, 4, none, true⟩, ⟨some 4, .assign (.tmp 5), 4, none, true⟩])
  (.cond (.tmp 4) .skip (.seq (.region [⟨some 6, .binOp .eql 3 (.tmp 3) (.const (.int .i64 11)) 3, 4, none, true⟩, ⟨some 4, .assign (.tmp 6), 4, none, true⟩])
  (.cond (.tmp 4) .skip (.seq (.region [⟨some 7, .binOp .eql 3 (.tmp 3) (.const (.int .i64 12)) 3, 4, none, true⟩, ⟨some 4, .assign (.tmp 7), 4, none, true⟩])
  (.cond (.tmp 4) .skip (.region [⟨some 8, .binOp .eql 3 (.tmp 3) (.const (.int .i64 13)) 3, 4, none, true⟩, ⟨some 4, .assign (.tmp 8), 4, none, true⟩])))))))
  (.cond (.tmp 4) (.seq (.region [⟨some 2, .assign (.const (.string (⟨#[77]⟩))), 9, none, true⟩])
  .ret) (.seq (.region [⟨some 10, .binOp .eql 3 (.tmp 3) (.const (.int .i64 2)) 3, 4, none, true⟩, ⟨some 9, .assign (.tmp 10), 4, none, true⟩])
  (.cond (.tmp 9) (.seq (.region [⟨some 2, .assign (.const (.string (⟨#[77, 65, 83]⟩))), 9, none, true⟩])
  .ret) (.seq (.seq (.region [⟨some 12, .binOp .eql 3 (.tmp 3) (.const (.int .i64 3)) 3, 4, none, true⟩, ⟨some 11, .assign (.tmp 12), 4, none, true⟩])
  (.cond (.tmp 11) .skip (.seq (.region [⟨some 13, .binOp .eql 3 (.tmp 3) (.const (.int .i64 4)) 3, 4, none, true⟩, ⟨some 11, .assign (.tmp 13), 4, none, true⟩])
  (.cond (.tmp 11) .skip (.region [⟨some 14, .binOp .eql 3 (.tmp 3) (.const (.int .i64 6)) 3, 4, none, true⟩, ⟨some 11, .assign (.tmp 14), 4, none, true⟩])))))
  (.cond (.tmp 11) (.seq (.region [⟨some 2, .assign (.const (.string (⟨#[65, 81]⟩))), 9, none, true⟩])
  .ret) (.seq (.seq (.region [⟨some 16, .binOp .eql 3 (.tmp 3) (.const (.int .i64 5)) 3, 4, none, true⟩, ⟨some 15, .assign (.tmp 16), 4, none, true⟩])
  (.cond (.tmp 15) .skip (.region [⟨some 17, .binOp .eql 3 (.tmp 3) (.const (.int .i64 22)) 3, 4, none, true⟩, ⟨some 15, .assign (.tmp 17), 4, none, true⟩])))
  (.cond (.tmp 15) (.seq (.region [⟨some 2, .assign (.const (.string (⟨#[77, 81]⟩))), 9, none, true⟩])
  .ret) (.seq (.region [⟨some 19, .binOp .eql 3 (.tmp 3) (.const (.int .i64 7)) 3, 4, none, true⟩, ⟨some 18, .assign (.tmp 19), 4, none, true⟩])
  (.cond (.tmp 18) (.seq (.region [⟨some 2, .assign (.const (.string (⟨#[65, 73, 83, 81, 80]⟩))), 9, none, true⟩])
  .ret) (.seq (.region [⟨some 21, .binOp .eql 3 (.tmp 3) (.const (.int .i64 8)) 3, 4, none, true⟩, ⟨some 20, .assign (.tmp 21), 4, none, true⟩])
  (.cond (.tmp 20) (.seq (.region [⟨some 2, .assign (.const (.string (⟨#[65, 68]⟩))), 9, none, true⟩])
  .ret) (.seq (.region [⟨some 23, .binOp .eql 3 (.tmp 3) (.const (.int .i64 9)) 3, 4, none, true⟩, ⟨some 22, .assign (.tmp 23), 4, none, true⟩])
  (.cond (.tmp 22) (.seq (.region [⟨some 2, .assign (.const (.string (⟨#[73, 80]⟩))), 9, none, true⟩])
  .ret) (.seq (.region [⟨some 25, .binOp .eql 3 (.tmp 3) (.const (.int .i64 10)) 3, 4, none, true⟩, ⟨some 24, .assign (.tmp 25), 4, none, true⟩])
  (.cond (.tmp 24) (.seq (.region [⟨some 2, .assign (.const (.string (⟨#[81]⟩))), 9, none, true⟩])
  .ret) (.seq (.region [⟨some 27, .binOp .eql 3 (.tmp 3) (.const (.int .i64 14)) 3, 4, none, true⟩, ⟨some 26, .assign (.tmp 27), 4, none, true⟩])
  (.cond (.tmp 26) (.seq (.region [⟨some 2, .assign (.const (.string (⟨#[77, 65]⟩))), 9, none, true⟩])
  .ret) (.seq (.region [⟨some 29, .binOp .eql 3 (.tmp 3) (.const (.int .i64 17)) 3, 4, none, true⟩, ⟨some 28, .assign (.tmp 29), 4, none, true⟩])
  (.cond (.tmp 28) (.seq (.region [⟨some 2, .assign (.const (.string (⟨#[65, 68, 81, 80]⟩))), 9, none, true⟩])
  .ret) (.seq (.region [⟨some 31, .binOp .eql 3 (.tmp 3) (.const (.int .i64 19)) 3, 4, none, true⟩, ⟨some 30, .assign (.tmp 31), 4, none, true⟩])
  (.cond (.tmp 30) (.seq (.region [⟨some 2, .assign (.const (.string (⟨#[77, 68, 80]⟩))), 9, none, true⟩])
  .ret) .skip))))))))))))))))))))))))
  (.seq (.region [⟨some 2, .assign (.const (.string (⟨#[]⟩))), 9, none, true⟩])
  .ret))
noncomputable def f15 : AFn := ⟨32, [.tmp 2], b15⟩
/-- novation/novationseat.Of -/
noncomputable def b16 : AC :=
  .seq (.region [⟨some 2, .assign (.const (.pointer none)), 33, none, true⟩])
  (.seq (.region [⟨some 3, .move (.tmp 0), 32, none, true⟩, ⟨some 4, .build 55 #[(0, .tmp 3)], 55, none, true⟩, ⟨some 5, .box 55 (.tmp 4), 33, none, true⟩, ⟨some 2, .assign (.tmp 5), 33, none, true⟩])
  .ret)
noncomputable def f16 : AFn := ⟨6, [.tmp 2], b16⟩
/-- (*novation/novationseat.Deck).Event -/
noncomputable def b17 : AC :=
  .seq (.region [⟨some 3, .box 38 (.tmp 1), 0, none, true⟩, ⟨some 4, .alloc 23, 0, none, true⟩])
  (.seq (.draw (drawOf T.c17 1) [0, 3, 6, 7, 8, 9, 1, 2, 4, 5, 10, 11, 12, 13] [[], [0], [0, 1], [], [0, 1, 3], [0, 1, 3, 4], [], [], [7], [7, 8], [0, 1, 3, 4, 6, 7, 8, 9], [0, 1, 2, 3, 4, 6, 7, 8, 9, 10], [0, 1, 2, 3, 4, 5, 6, 7, 8, 9, 10, 11], [0, 1, 2, 3, 4, 5, 6, 7, 8, 9, 10, 11, 12]])
  (.seq (.seq (.region [⟨some 20, .move (.tmp 0), 33, none, true⟩, ⟨some 21, .call (⟨.value (.func 31), #[.tmp 20, .const (.int .i64 36)], #[33, 3]⟩), 3, none, true⟩, ⟨some 22, .binOp .add 3 (.const (.int .i64 1)) (.tmp 21) 3, 3, none, true⟩, ⟨some 8, .assign (.tmp 22), 3, none, true⟩])
  (.seq (.region [⟨some 23, .move (.tmp 8), 3, none, true⟩])
  (.block 0 (.seq (.seq (.region [⟨some 25, .binOp .eql 3 (.tmp 23) (.const (.int .i64 1)) 3, 4, none, true⟩, ⟨some 24, .assign (.tmp 25), 4, none, true⟩])
  (.cond (.tmp 24) .skip (.seq (.region [⟨some 26, .binOp .eql 3 (.tmp 23) (.const (.int .i64 11)) 3, 4, none, true⟩, ⟨some 24, .assign (.tmp 26), 4, none, true⟩])
  (.cond (.tmp 24) .skip (.seq (.region [⟨some 27, .binOp .eql 3 (.tmp 23) (.const (.int .i64 12)) 3, 4, none, true⟩, ⟨some 24, .assign (.tmp 27), 4, none, true⟩])
  (.cond (.tmp 24) .skip (.region [⟨some 28, .binOp .eql 3 (.tmp 23) (.const (.int .i64 13)) 3, 4, none, true⟩, ⟨some 24, .assign (.tmp 28), 4, none, true⟩])))))))
  (.cond (.tmp 24) (.seq (.region [⟨some 29, .move (.tmp 8), 3, none, true⟩, ⟨some 30, .move (.tmp 5), 3, none, true⟩, ⟨some 31, .build 23 #[(0, .tmp 29), (1, .tmp 30)], 23, none, true⟩, ⟨none, .store 23 (.tmp 4) (.tmp 31), 0, none, true⟩])
  .ret) (.seq (.region [⟨some 33, .binOp .eql 3 (.tmp 23) (.const (.int .i64 2)) 3, 4, none, true⟩, ⟨some 32, .assign (.tmp 33), 4, none, true⟩])
  (.cond (.tmp 32) (.seq (.region [⟨some 34, .move (.tmp 8), 3, none, true⟩, ⟨some 35, .move (.tmp 5), 3, none, true⟩, ⟨some 36, .move (.tmp 6), 3, none, true⟩, ⟨some 37, .move (.tmp 0), 33, none, true⟩, ⟨some 38, .call (⟨.value (.func 31), #[.tmp 37, .const (.int .i64 2)], #[33, 3]⟩), 3, none, true⟩, ⟨some 39, .binOp .add 3 (.const (.int .i64 1)) (.tmp 38) 3, 3, none, true⟩, ⟨some 40, .build 23 #[(0, .tmp 34), (1, .tmp 35), (2, .tmp 36), (4, .tmp 39)], 23, none, true⟩, ⟨none, .store 23 (.tmp 4) (.tmp 40), 0, none, true⟩])
  .ret) (.seq (.seq (.region [⟨some 42, .binOp .eql 3 (.tmp 23) (.const (.int .i64 3)) 3, 4, none, true⟩, ⟨some 41, .assign (.tmp 42), 4, none, true⟩])
  (.cond (.tmp 41) .skip (.region [⟨some 43, .binOp .eql 3 (.tmp 23) (.const (.int .i64 4)) 3, 4, none, true⟩, ⟨some 41, .assign (.tmp 43), 4, none, true⟩])))
  (.cond (.tmp 41) (.seq (.region [⟨some 44, .move (.tmp 8), 3, none, true⟩, ⟨some 45, .move (.tmp 6), 3, none, true⟩, ⟨some 46, .move (.tmp 0), 33, none, true⟩, ⟨some 47, .call (⟨.value (.func 32), #[.tmp 46], #[33]⟩), 2, none, true⟩, ⟨some 48, .call (⟨.builtin .max, #[.tmp 47, .const (.int .i64 1)], #[2, 2]⟩), 2, none, true⟩, ⟨some 49, .build 23 #[(0, .tmp 44), (2, .tmp 45), (6, .tmp 48)], 23, none, true⟩, ⟨none, .store 23 (.tmp 4) (.tmp 49), 0, none, true⟩])
  .ret) (.seq (.seq (.region [⟨some 51, .binOp .eql 3 (.tmp 23) (.const (.int .i64 5)) 3, 4, none, true⟩, ⟨some 50, .assign (.tmp 51), 4, none, true⟩])
  (.cond (.tmp 50) .skip (.region [⟨some 52, .binOp .eql 3 (.tmp 23) (.const (.int .i64 22)) 3, 4, none, true⟩, ⟨some 50, .assign (.tmp 52), 4, none, true⟩])))
  (.cond (.tmp 50) (.seq (.region [⟨some 53, .move (.tmp 8), 3, none, true⟩, ⟨some 54, .move (.tmp 5), 3, none, true⟩, ⟨some 55, .move (.tmp 0), 33, none, true⟩, ⟨some 56, .call (⟨.value (.func 32), #[.tmp 55], #[33]⟩), 2, none, true⟩, ⟨some 57, .call (⟨.builtin .max, #[.tmp 56, .const (.int .i64 1)], #[2, 2]⟩), 2, none, true⟩, ⟨some 58, .build 23 #[(0, .tmp 53), (1, .tmp 54), (6, .tmp 57)], 23, none, true⟩, ⟨none, .store 23 (.tmp 4) (.tmp 58), 0, none, true⟩])
  .ret) (.seq (.region [⟨some 60, .binOp .eql 3 (.tmp 23) (.const (.int .i64 6)) 3, 4, none, true⟩, ⟨some 59, .assign (.tmp 60), 4, none, true⟩])
  (.cond (.tmp 59) (.seq (.region [⟨some 61, .move (.tmp 8), 3, none, true⟩, ⟨some 62, .move (.tmp 6), 3, none, true⟩, ⟨some 63, .move (.tmp 0), 33, none, true⟩, ⟨some 64, .call (⟨.value (.func 32), #[.tmp 63], #[33]⟩), 2, none, true⟩, ⟨some 65, .binOp .rem 2 (.tmp 64) (.const (.int .i64 1000000000001)) 2, 2, none, true⟩, ⟨some 66, .build 23 #[(0, .tmp 61), (2, .tmp 62), (6, .tmp 65)], 23, none, true⟩, ⟨none, .store 23 (.tmp 4) (.tmp 66), 0, none, true⟩])
  .ret) (.seq (.region [⟨some 68, .binOp .eql 3 (.tmp 23) (.const (.int .i64 8)) 3, 4, none, true⟩, ⟨some 67, .assign (.tmp 68), 4, none, true⟩])
  (.cond (.tmp 67) (.seq (.region [⟨some 69, .move (.tmp 8), 3, none, true⟩, ⟨some 70, .move (.tmp 6), 3, none, true⟩, ⟨some 71, .move (.tmp 0), 33, none, true⟩, ⟨some 72, .call (⟨.value (.func 31), #[.tmp 71, .const (.int .i64 40)], #[33, 3]⟩), 3, none, true⟩, ⟨some 73, .binOp .add 2 (.const (.int .i64 1)) (.tmp 72) 2, 2, none, true⟩, ⟨some 74, .build 23 #[(0, .tmp 69), (2, .tmp 70), (5, .tmp 73)], 23, none, true⟩, ⟨none, .store 23 (.tmp 4) (.tmp 74), 0, none, true⟩])
  .ret) (.seq (.region [⟨some 76, .binOp .eql 3 (.tmp 23) (.const (.int .i64 9)) 3, 4, none, true⟩, ⟨some 75, .assign (.tmp 76), 4, none, true⟩])
  (.cond (.tmp 75) (.seq (.region [⟨some 77, .move (.tmp 0), 33, none, true⟩, ⟨some 78, .load 38 (.tmp 3), 38, none, true⟩, ⟨some 79, .move (.tmp 7), 3, none, true⟩, ⟨some 80, .call (⟨.value (.func 33), #[.tmp 77, .tmp 78, .tmp 79], #[33, 38, 3]⟩), 23, none, true⟩, ⟨none, .store 23 (.tmp 4) (.tmp 80), 0, none, true⟩])
  .ret) (.seq (.region [⟨some 82, .binOp .eql 3 (.tmp 23) (.const (.int .i64 10)) 3, 4, none, true⟩, ⟨some 81, .assign (.tmp 82), 4, none, true⟩])
  (.cond (.tmp 81) (.seq (.region [⟨some 83, .move (.tmp 8), 3, none, true⟩, ⟨some 84, .move (.tmp 0), 33, none, true⟩, ⟨some 85, .call (⟨.value (.func 31), #[.tmp 84, .const (.int .i64 3)], #[33, 3]⟩), 3, none, true⟩, ⟨some 86, .binOp .add 2 (.const (.int .i64 1)) (.tmp 85) 2, 2, none, true⟩, ⟨some 87, .build 23 #[(0, .tmp 83), (6, .tmp 86)], 23, none, true⟩, ⟨none, .store 23 (.tmp 4) (.tmp 87), 0, none, true⟩])
  .ret) (.seq (.region [⟨some 89, .binOp .eql 3 (.tmp 23) (.const (.int .i64 14)) 3, 4, none, true⟩, ⟨some 88, .assign (.tmp 89), 4, none, true⟩])
  (.cond (.tmp 88) (.seq (.region [⟨some 90, .move (.tmp 8), 3, none, true⟩, ⟨some 91, .move (.tmp 5), 3, none, true⟩, ⟨some 92, .move (.tmp 6), 3, none, true⟩, ⟨some 93, .build 23 #[(0, .tmp 90), (1, .tmp 91), (2, .tmp 92)], 23, none, true⟩, ⟨none, .store 23 (.tmp 4) (.tmp 93), 0, none, true⟩])
  .ret) (.seq (.seq (.region [⟨some 95, .binOp .eql 3 (.tmp 23) (.const (.int .i64 15)) 3, 4, none, true⟩, ⟨some 94, .assign (.tmp 95), 4, none, true⟩])
  (.cond (.tmp 94) .skip (.seq (.region [⟨some 96, .binOp .eql 3 (.tmp 23) (.const (.int .i64 16)) 3, 4, none, true⟩, ⟨some 94, .assign (.tmp 96), 4, none, true⟩])
  (.cond (.tmp 94) .skip (.seq (.region [⟨some 97, .binOp .eql 3 (.tmp 23) (.const (.int .i64 18)) 3, 4, none, true⟩, ⟨some 94, .assign (.tmp 97), 4, none, true⟩])
  (.cond (.tmp 94) .skip (.seq (.region [⟨some 98, .binOp .eql 3 (.tmp 23) (.const (.int .i64 20)) 3, 4, none, true⟩, ⟨some 94, .assign (.tmp 98), 4, none, true⟩])
  (.cond (.tmp 94) .skip (.region [⟨some 99, .binOp .eql 3 (.tmp 23) (.const (.int .i64 21)) 3, 4, none, true⟩, ⟨some 94, .assign (.tmp 99), 4, none, true⟩])))))))))
  (.cond (.tmp 94) (.seq (.region [⟨some 100, .move (.tmp 8), 3, none, true⟩, ⟨some 101, .build 23 #[(0, .tmp 100)], 23, none, true⟩, ⟨none, .store 23 (.tmp 4) (.tmp 101), 0, none, true⟩])
  .ret) (.seq (.region [⟨some 103, .binOp .eql 3 (.tmp 23) (.const (.int .i64 17)) 3, 4, none, true⟩, ⟨some 102, .assign (.tmp 103), 4, none, true⟩])
  (.cond (.tmp 102) (.seq (.draw (drawOf T.c17 34) [0, 1, 2, 5, 8, 9, 10, 11, 12, 13, 3, 4, 6, 7, 14, 15] [[], [], [], [2], [2, 3], [], [2, 3, 5], [2, 3, 5, 6], [], [8], [], [8, 9, 10], [8, 9, 10, 11], [8, 9, 10, 11, 12], [0, 1, 2, 3, 4, 5, 6, 7, 8, 9, 10, 11, 12, 13], [0, 1, 2, 3, 4, 5, 6, 7, 8, 9, 10, 11, 12, 13, 14]])
  .ret) (.seq (.region [⟨some 120, .binOp .eql 3 (.tmp 23) (.const (.int .i64 19)) 3, 4, none, true⟩, ⟨some 119, .assign (.tmp 120), 4, none, true⟩])
  (.cond (.tmp 119) (.seq (.region [⟨some 121, .move (.tmp 8), 3, none, true⟩, ⟨some 122, .move (.tmp 5), 3, none, true⟩, ⟨some 123, .move (.tmp 0), 33, none, true⟩, ⟨some 124, .call (⟨.value (.func 31), #[.tmp 123, .const (.int .i64 60)], #[33, 3]⟩), 3, none, true⟩, ⟨some 125, .binOp .add 2 (.const (.int .i64 1)) (.tmp 124) 2, 2, none, true⟩, ⟨some 126, .move (.tmp 0), 33, none, true⟩, ⟨some 127, .call (⟨.value (.func 31), #[.tmp 126, .const (.int .i64 80)], #[33, 3]⟩), 3, none, true⟩, ⟨some 128, .binOp .sub 2 (.tmp 127) (.const (.int .i64 60)) 2, 2, none, true⟩, ⟨some 129, .build 23 #[(0, .tmp 121), (1, .tmp 122), (5, .tmp 125), (7, .tmp 128)], 23, none, true⟩, ⟨none, .store 23 (.tmp 4) (.tmp 129), 0, none, true⟩])
  .ret) .skip)))))))))))))))))))))))))))
  (.seq (.region [⟨some 130, .move (.tmp 0), 33, none, true⟩, ⟨some 131, .load 38 (.tmp 3), 38, none, true⟩, ⟨some 132, .call (⟨.value (.func 34), #[.tmp 130, .tmp 131], #[33, 38]⟩), 23, none, true⟩, ⟨none, .store 23 (.tmp 4) (.tmp 132), 0, none, true⟩])
  .ret)))
noncomputable def f17 : AFn := ⟨133, [.cell 4 23], b17⟩
/-- (*novation/novationseat.Deck).Config -/
noncomputable def b18 : AC :=
  .seq (.region [⟨some 2, .alloc 38, 0, none, true⟩])
  (.seq (.region [⟨some 3, .alloc 38, 0, none, true⟩])
  (.seq (.seq (.region [⟨some 6, .move (.tmp 0), 33, none, true⟩, ⟨some 7, .call (⟨.value (.func 31), #[.tmp 6, .const (.int .i64 4)], #[33, 3]⟩), 3, none, true⟩, ⟨some 8, .binOp .add 3 (.const (.int .i64 1)) (.tmp 7) 3, 3, none, true⟩, ⟨some 4, .assign (.tmp 8), 3, none, true⟩])
  (.block 0 (.loop [true, false, true, true, true, false, false, false, false, false, false, false, false, false, false, false, false, false, false, false, false, false, false, false, false, false, false, false, false, false, false, false, false, false, false, false, false, false, false, false, false, false, false, false, false, false, false, false, false, false, false, false, false, false, false, false, false, false, false, false, false, false, false, false, false, false, false, false, false, false, false] (.seq (.seq (.region [⟨some 9, .move (.tmp 4), 3, none, true⟩, ⟨some 10, .binOp .gtr 3 (.tmp 9) (.const (.int .i64 0)) 3, 4, none, true⟩])
  (.cond (.tmp 10) .skip (.exit 0)))
  (.seq (.block 1 (.seq (.region [⟨some 13, .move (.tmp 0), 33, none, true⟩, ⟨some 14, .call (⟨.value (.func 31), #[.tmp 13, .const (.int .i64 3)], #[33, 3]⟩), 3, none, true⟩, ⟨some 15, .move (.tmp 0), 33, none, true⟩, ⟨some 16, .call (⟨.value (.func 31), #[.tmp 15, .const (.int .i64 300)], #[33, 3]⟩), 3, none, true⟩, ⟨some 17, .binOp .add 2 (.const (.int .i64 1)) (.tmp 16) 2, 2, none, true⟩, ⟨some 18, .move (.tmp 0), 33, none, true⟩, ⟨some 19, .call (⟨.value (.func 31), #[.tmp 18, .const (.int .i64 12)], #[33, 3]⟩), 3, none, true⟩, ⟨some 20, .move (.tmp 0), 33, none, true⟩, ⟨some 21, .call (⟨.value (.func 31), #[.tmp 20, .const (.int .i64 6)], #[33, 3]⟩), 3, none, true⟩, ⟨some 22, .build 60 #[(0, .tmp 14), (1, .tmp 17), (2, .tmp 19), (3, .tmp 21)], 60, none, true⟩, ⟨some 5, .alloc 60, 0, none, true⟩, ⟨none, .store 60 (.tmp 5) (.tmp 22), 0, none, true⟩])
  (.seq (.seq (.region [⟨some 23, .move (.tmp 0), 33, none, true⟩, ⟨some 24, .call (⟨.value (.func 35), #[.tmp 23, .const (.int .i64 12)], #[33, 3]⟩), 4, none, true⟩])
  (.cond (.tmp 24) (.region [⟨some 25, .move (.tmp 0), 33, none, true⟩, ⟨some 26, .call (⟨.value (.func 32), #[.tmp 25], #[33]⟩), 2, none, true⟩, ⟨some 27, .binOp .rem 2 (.tmp 26) (.const (.int .i64 1000000000000)) 2, 2, none, true⟩, ⟨some 28, .binOp .add 2 (.const (.int .i64 1)) (.tmp 27) 2, 2, none, true⟩, ⟨some 29, .fieldAddr 60 (.tmp 5) 1, 0, none, true⟩, ⟨none, .store 2 (.tmp 29) (.tmp 28), 0, none, true⟩]) .skip))
  (.seq (.seq (.region [⟨some 30, .move (.tmp 0), 33, none, true⟩, ⟨some 31, .call (⟨.value (.func 35), #[.tmp 30, .const (.int .i64 12)], #[33, 3]⟩), 4, none, true⟩])
  (.cond (.tmp 31) (.region [⟨some 32, .move (.tmp 0), 33, none, true⟩, ⟨some 33, .call (⟨.value (.func 32), #[.tmp 32], #[33]⟩), 2, none, true⟩, ⟨some 34, .binOp .rem 2 (.tmp 33) (.const (.int .i64 1000000001)) 2, 2, none, true⟩, ⟨some 35, .move (.tmp 0), 33, none, true⟩, ⟨some 36, .call (⟨.value (.func 32), #[.tmp 35], #[33]⟩), 2, none, true⟩, ⟨some 37, .binOp .rem 2 (.tmp 36) (.const (.int .i64 1000000001)) 2, 2, none, true⟩, ⟨some 38, .fieldAddr 60 (.tmp 5) 2, 0, none, true⟩, ⟨none, .store 2 (.tmp 38) (.tmp 34), 0, none, true⟩, ⟨some 39, .fieldAddr 60 (.tmp 5) 3, 0, none, true⟩, ⟨none, .store 2 (.tmp 39) (.tmp 37), 0, none, true⟩]) .skip))
  (.region [⟨some 40, .fieldAddr 38 (.tmp 3) 0, 0, none, true⟩, ⟨some 41, .load 36 (.tmp 40), 36, none, true⟩, ⟨some 42, .load 60 (.tmp 5), 60, none, true⟩, ⟨some 43, .buildSlice 36 1 #[(0, .tmp 42)], 36, none, true⟩, ⟨some 44, .call (⟨.builtin .append, #[.tmp 41, .tmp 43], #[36, 36]⟩), 36, none, true⟩, ⟨some 45, .fieldAddr 38 (.tmp 3) 0, 0, none, true⟩, ⟨none, .store 36 (.tmp 45) (.tmp 44), 0, none, true⟩])))))
  (.region [⟨some 11, .move (.tmp 4), 3, none, true⟩, ⟨some 12, .binOp .sub 3 (.tmp 11) (.const (.int .i64 1)) 3, 3, none, true⟩, ⟨some 4, .assign (.tmp 12), 3, none, true⟩]))))))
  (.seq (.region [⟨some 46, .move (.tmp 0), 33, none, true⟩, ⟨some 47, .call (⟨.value (.func 31), #[.tmp 46, .const (.int .i64 300)], #[33, 3]⟩), 3, none, true⟩, ⟨some 48, .move (.tmp 0), 33, none, true⟩, ⟨some 49, .call (⟨.value (.func 31), #[.tmp 48, .const (.int .i64 5)], #[33, 3]⟩), 3, none, true⟩, ⟨some 50, .fieldAddr 38 (.tmp 3) 1, 0, none, true⟩, ⟨none, .store 2 (.tmp 50) (.tmp 47), 0, none, true⟩, ⟨some 51, .fieldAddr 38 (.tmp 3) 2, 0, none, true⟩, ⟨none, .store 3 (.tmp 51) (.tmp 49), 0, none, true⟩])
  (.seq (.region [⟨some 52, .move (.tmp 0), 33, none, true⟩, ⟨some 53, .call (⟨.value (.func 31), #[.tmp 52, .const (.int .i64 3)], #[33, 3]⟩), 3, none, true⟩, ⟨some 54, .move (.tmp 0), 33, none, true⟩, ⟨some 55, .call (⟨.value (.func 31), #[.tmp 54, .const (.int .i64 3)], #[33, 3]⟩), 3, none, true⟩, ⟨some 56, .fieldAddr 38 (.tmp 3) 3, 0, none, true⟩, ⟨none, .store 2 (.tmp 56) (.tmp 53), 0, none, true⟩, ⟨some 57, .fieldAddr 38 (.tmp 3) 4, 0, none, true⟩, ⟨none, .store 2 (.tmp 57) (.tmp 55), 0, none, true⟩])
  (.seq (.region [⟨some 58, .move (.tmp 0), 33, none, true⟩, ⟨some 59, .call (⟨.value (.func 31), #[.tmp 58, .const (.int .i64 20)], #[33, 3]⟩), 3, none, true⟩, ⟨some 60, .binOp .add 2 (.const (.int .i64 1)) (.tmp 59) 2, 2, none, true⟩, ⟨some 61, .move (.tmp 0), 33, none, true⟩, ⟨some 62, .call (⟨.value (.func 31), #[.tmp 61, .const (.int .i64 100)], #[33, 3]⟩), 3, none, true⟩, ⟨some 63, .fieldAddr 38 (.tmp 3) 5, 0, none, true⟩, ⟨none, .store 2 (.tmp 63) (.tmp 60), 0, none, true⟩, ⟨some 64, .fieldAddr 38 (.tmp 3) 6, 0, none, true⟩, ⟨none, .store 2 (.tmp 64) (.tmp 62), 0, none, true⟩])
  (.seq (.seq (.region [⟨some 65, .move (.tmp 0), 33, none, true⟩, ⟨some 66, .call (⟨.value (.func 35), #[.tmp 65, .const (.int .i64 15)], #[33, 3]⟩), 4, none, true⟩])
  (.cond (.tmp 66) (.region [⟨some 67, .move (.tmp 0), 33, none, true⟩, ⟨some 68, .call (⟨.value (.func 32), #[.tmp 67], #[33]⟩), 2, none, true⟩, ⟨some 69, .fieldAddr 38 (.tmp 3) 1, 0, none, true⟩, ⟨none, .store 2 (.tmp 69) (.tmp 68), 0, none, true⟩]) .skip))
  (.seq (.region [⟨some 70, .load 38 (.tmp 3), 38, none, true⟩, ⟨none, .store 38 (.tmp 2) (.tmp 70), 0, none, true⟩])
  .ret)))))))
noncomputable def f18 : AFn := ⟨71, [.cell 2 38], b18⟩
/-- novation/novationlaw6.reads -/
noncomputable def b19 : AC :=
  .seq (.region [⟨some 2, .assign (.const (.bool false)), 4, none, true⟩])
  (.seq (.region [⟨some 8, .move (.tmp 0), 25, none, true⟩, ⟨some 9, .call (⟨.value (.func 20), #[.tmp 8], #[25]⟩), 42, none, true⟩, ⟨some 7, .move (.tmp 9), 42, none, true⟩, ⟨some 10, .extract (.tmp 7) 0, 23, none, true⟩, ⟨some 11, .extract (.tmp 7) 1, 26, none, true⟩, ⟨some 3, .alloc 23, 0, none, true⟩, ⟨none, .store 23 (.tmp 3) (.tmp 10), 0, none, true⟩, ⟨some 4, .assign (.tmp 11), 26, none, true⟩])
  (.seq (.region [⟨some 13, .move (.tmp 0), 25, none, true⟩, ⟨some 14, .call (⟨.value (.func 36), #[.tmp 13], #[25]⟩), 42, none, true⟩, ⟨some 12, .move (.tmp 14), 42, none, true⟩, ⟨some 15, .extract (.tmp 12) 0, 23, none, true⟩, ⟨some 16, .extract (.tmp 12) 1, 26, none, true⟩, ⟨some 5, .alloc 23, 0, none, true⟩, ⟨none, .store 23 (.tmp 5) (.tmp 15), 0, none, true⟩, ⟨some 6, .assign (.tmp 16), 26, none, true⟩])
  (.seq (.region [⟨some 17, .load 23 (.tmp 3), 23, none, true⟩, ⟨some 18, .load 23 (.tmp 5), 23, none, true⟩, ⟨some 19, .binOp .eql 23 (.tmp 17) (.tmp 18) 23, 4, none, true⟩, ⟨some 20, .move (.tmp 19), 4, none, true⟩, ⟨some 21, .move (.tmp 4), 26, some (some 20), true⟩, ⟨some 22, .move (.tmp 6), 26, some (some 20), true⟩, ⟨some 23, .binOp .eql 26 (.tmp 21) (.tmp 22) 26, 4, some (some 20), true⟩, ⟨some 24, .pick (.tmp 20) (.tmp 23) (.const (.bool false)), 4, none, true⟩, ⟨some 2, .assign (.tmp 24), 4, none, true⟩])
  .ret)))
noncomputable def f19 : AFn := ⟨25, [.tmp 2], b19⟩
/-- novation/event.Read -/
noncomputable def b20 : AC :=
  .seq (.region [⟨some 2, .alloc 23, 0, none, true⟩, ⟨some 3, .assign (.const (.int .i64 0)), 26, none, true⟩])
  (.seq (.seq (.region [⟨some 12, .move (.tmp 0), 25, none, true⟩, ⟨some 13, .call (⟨.builtin .len, #[.tmp 12], #[25]⟩), 3, none, true⟩, ⟨some 14, .binOp .eql 3 (.tmp 13) (.const (.int .i64 0)) 3, 4, none, true⟩])
  (.cond (.tmp 14) (.seq (.region [⟨some 15, .build 23 #[], 23, none, true⟩, ⟨none, .store 23 (.tmp 2) (.tmp 15), 0, none, true⟩, ⟨some 3, .assign (.const (.int .i64 13)), 26, none, true⟩])
  .ret) .skip))
  (.seq (.region [⟨some 16, .move (.tmp 0), 25, none, true⟩, ⟨some 17, .indexAddr 25 (.tmp 16) (.const (.int .i64 0)), 0, none, true⟩, ⟨some 18, .load 5 (.tmp 17), 5, none, true⟩, ⟨some 19, .convert 5 3 (.tmp 18), 3, none, true⟩, ⟨some 20, .build 23 #[(0, .tmp 19)], 23, none, true⟩, ⟨some 4, .alloc 23, 0, none, true⟩, ⟨none, .store 23 (.tmp 4) (.tmp 20), 0, none, true⟩, ⟨some 5, .assign (.const (.int .i64 1)), 3, none, true⟩])
  (.seq (.seq (.region [⟨some 21, .fieldAddr 23 (.tmp 4) 0, 0, none, true⟩, ⟨some 22, .load 3 (.tmp 21), 3, none, true⟩, ⟨some 23, .call (⟨.value (.func 14), #[.tmp 22], #[3]⟩), 9, none, true⟩, ⟨some 24, .convert 9 25 (.tmp 23), 25, none, true⟩, ⟨some 25, .call (⟨.builtin .len, #[.tmp 24], #[25]⟩), 3, none, true⟩, ⟨some 26, .move (.const (.int .i64 0)), 3, none, true⟩])
  (.block 0 (.loop [true, false, true, false, true, true, false, false, false, false, false, false, false, false, false, false, false, false, false, false, false, false, false, false, true, true, true, false, false, false, false, false, false, false, false, false, false, false, false, false, false, false, false, false, false, false, false, false, false, false, false, false, false, false, false, false, false, false, false, false, false, false, false] (.seq (.region [⟨some 27, .binOp .lss 3 (.tmp 26) (.tmp 25) 3, 0, none, true⟩])
  (.seq (.cond (.tmp 27) .skip (.exit 0))
  (.seq (.block 1 (.seq (.region [⟨some 28, .indexAddr 25 (.tmp 24) (.tmp 26), 0, none, true⟩, ⟨some 29, .load 5 (.tmp 28), 5, none, true⟩, ⟨some 7, .assign (.tmp 29), 5, none, true⟩])
  (.seq (.region [⟨some 31, .move (.tmp 0), 25, none, true⟩, ⟨some 32, .move (.tmp 5), 3, none, true⟩, ⟨some 33, .slice 25 (.tmp 31) (some (.tmp 32)) none none, 25, none, true⟩, ⟨some 34, .call (⟨.value (.func 37), #[.tmp 33], #[25]⟩), 61, none, true⟩, ⟨some 30, .move (.tmp 34), 61, none, true⟩, ⟨some 35, .extract (.tmp 30) 0, 2, none, true⟩, ⟨some 36, .extract (.tmp 30) 1, 3, none, true⟩, ⟨some 8, .assign (.tmp 35), 2, none, true⟩, ⟨some 9, .assign (.tmp 36), 3, none, true⟩])
  (.seq (.seq (.region [⟨some 37, .move (.tmp 9), 3, none, true⟩, ⟨some 38, .binOp .eql 3 (.tmp 37) (.const (.int .i64 0)) 3, 4, none, true⟩])
  (.cond (.tmp 38) (.seq (.region [⟨some 39, .build 23 #[], 23, none, true⟩, ⟨none, .store 23 (.tmp 2) (.tmp 39), 0, none, true⟩, ⟨some 3, .assign (.const (.int .i64 13)), 26, none, true⟩])
  .ret) .skip))
  (.region [⟨some 40, .load 23 (.tmp 4), 23, none, true⟩, ⟨some 41, .move (.tmp 7), 5, none, true⟩, ⟨some 42, .move (.tmp 8), 2, none, true⟩, ⟨some 43, .call (⟨.value (.func 27), #[.tmp 40, .tmp 41, .tmp 42], #[23, 5, 2]⟩), 23, none, true⟩, ⟨some 44, .move (.tmp 5), 3, none, true⟩, ⟨some 45, .move (.tmp 9), 3, none, true⟩, ⟨some 46, .binOp .add 3 (.tmp 44) (.tmp 45) 3, 3, none, true⟩, ⟨none, .store 23 (.tmp 4) (.tmp 43), 0, none, true⟩, ⟨some 5, .assign (.tmp 46), 3, none, true⟩])))))
  (.region [⟨some 47, .binOp .add 3 (.tmp 26) (.const (.int .i64 1)) 3, 3, none, true⟩, ⟨some 26, .move (.tmp 47), 3, none, true⟩])))))))
  (.seq (.seq (.region [⟨some 49, .load 23 (.tmp 4), 23, none, true⟩, ⟨some 50, .call (⟨.value (.func 10), #[.tmp 49], #[23]⟩), 27, none, true⟩, ⟨some 48, .move (.tmp 50), 27, none, true⟩, ⟨some 51, .extract (.tmp 48) 0, 25, none, true⟩, ⟨some 52, .extract (.tmp 48) 1, 26, none, true⟩, ⟨some 10, .assign (.tmp 51), 25, none, true⟩, ⟨some 11, .assign (.tmp 52), 26, none, true⟩])
  (.seq (.region [⟨some 53, .move (.tmp 11), 26, none, true⟩, ⟨some 54, .binOp .neq 26 (.tmp 53) (.const (.int .i64 0)) 26, 4, none, true⟩, ⟨some 55, .move (.tmp 54), 4, none, true⟩, ⟨some 56, .move (.tmp 10), 25, some (some 55), false⟩, ⟨some 57, .move (.tmp 0), 25, some (some 55), false⟩, ⟨some 58, .call (⟨.value (.func 38), #[.tmp 56, .tmp 57], #[25, 25]⟩), 4, some (some 55), false⟩, ⟨some 59, .unOp .not 4 (.tmp 58), 4, some (some 55), false⟩, ⟨some 60, .pick (.tmp 55) (.const (.bool true)) (.tmp 59), 4, none, true⟩])
  (.cond (.tmp 60) (.seq (.region [⟨some 61, .build 23 #[], 23, none, true⟩, ⟨none, .store 23 (.tmp 2) (.tmp 61), 0, none, true⟩, ⟨some 3, .assign (.const (.int .i64 13)), 26, none, true⟩])
  .ret) .skip)))
  (.seq (.region [⟨some 62, .load 23 (.tmp 4), 23, none, true⟩, ⟨none, .store 23 (.tmp 2) (.tmp 62), 0, none, true⟩, ⟨some 3, .assign (.const (.int .i64 0)), 26, none, true⟩])
  .ret)))))
noncomputable def f20 : AFn := ⟨63, [.cell 2 23, .tmp 3], b20⟩
/-- novation/event.Number -/
noncomputable def b21 : AC :=
  .seq (.region [⟨some 4, .assign (.const (.slice none 0 0)), 25, none, true⟩])
  (.seq (.region [⟨some 7, .move (.tmp 0), 25, none, true⟩, ⟨some 8, .call (⟨.builtin .len, #[.tmp 7], #[25]⟩), 3, none, true⟩, ⟨some 9, .binOp .add 3 (.tmp 8) (.const (.int .i64 10)) 3, 3, none, true⟩, ⟨some 10, .makeSlice 25 (.const (.int .i64 0)) (.tmp 9), 25, none, true⟩, ⟨some 11, .move (.tmp 0), 25, none, true⟩, ⟨some 12, .call (⟨.builtin .append, #[.tmp 10, .tmp 11], #[25, 25]⟩), 25, none, true⟩, ⟨some 5, .assign (.tmp 12), 25, none, true⟩])
  (.seq (.region [⟨some 13, .move (.tmp 1), 2, none, true⟩, ⟨some 14, .convert 2 64 (.tmp 13), 64, none, true⟩, ⟨some 15, .binOp .shl 64 (.tmp 14) (.const (.int .u64 1)) 65, 64, none, true⟩, ⟨some 16, .move (.tmp 1), 2, none, true⟩, ⟨some 17, .binOp .shr 2 (.tmp 16) (.const (.int .u64 63)) 65, 2, none, true⟩, ⟨some 18, .convert 2 64 (.tmp 17), 64, none, true⟩, ⟨some 19, .binOp .xor 64 (.tmp 15) (.tmp 18) 64, 64, none, true⟩, ⟨some 6, .assign (.tmp 19), 64, none, true⟩])
  (.seq (.block 0 (.loop [false, false, false, false, false, true, true, false, false, false, false, false, false, false, false, false, false, false, false, false, false, false, false, false, false, false, false, false, false, false, false, false, false, false, false] (.seq (.seq (.region [⟨some 20, .move (.tmp 6), 64, none, true⟩, ⟨some 21, .binOp .gtr 64 (.tmp 20) (.const (.int .u64 127)) 64, 4, none, true⟩])
  (.cond (.tmp 21) .skip (.exit 0)))
  (.block 1 (.region [⟨some 22, .move (.tmp 5), 25, none, true⟩, ⟨some 23, .move (.tmp 6), 64, none, true⟩, ⟨some 24, .convert 64 5 (.tmp 23), 5, none, true⟩, ⟨some 25, .binOp .or 5 (.tmp 24) (.const (.int .u8 128)) 5, 5, none, true⟩, ⟨some 26, .buildSlice 25 1 #[(0, .tmp 25)], 25, none, true⟩, ⟨some 27, .call (⟨.builtin .append, #[.tmp 22, .tmp 26], #[25, 25]⟩), 25, none, true⟩, ⟨some 28, .move (.tmp 6), 64, none, true⟩, ⟨some 29, .binOp .shr 64 (.tmp 28) (.const (.int .u64 7)) 65, 64, none, true⟩, ⟨some 5, .assign (.tmp 27), 25, none, true⟩, ⟨some 6, .assign (.tmp 29), 64, none, true⟩])))))
  (.seq (.region [⟨some 30, .move (.tmp 5), 25, none, true⟩, ⟨some 31, .move (.tmp 6), 64, none, true⟩, ⟨some 32, .convert 64 5 (.tmp 31), 5, none, true⟩, ⟨some 33, .buildSlice 25 1 #[(0, .tmp 32)], 25, none, true⟩, ⟨some 34, .call (⟨.builtin .append, #[.tmp 30, .tmp 33], #[25, 25]⟩), 25, none, true⟩, ⟨some 4, .assign (.tmp 34), 25, none, true⟩])
  .ret))))
noncomputable def f21 : AFn := ⟨35, [.tmp 4], b21⟩
/-- novation/novationref4.Number -/
noncomputable def b22 : AC :=
  .seq (.region [⟨some 4, .assign (.const (.slice none 0 0)), 25, none, true⟩])
  (.seq (.region [⟨some 7, .buildSlice 25 0 #[], 25, none, true⟩, ⟨some 8, .move (.tmp 0), 25, none, true⟩, ⟨some 9, .call (⟨.builtin .append, #[.tmp 7, .tmp 8], #[25, 25]⟩), 25, none, true⟩, ⟨some 5, .assign (.tmp 9), 25, none, true⟩])
  (.seq (.region [⟨some 10, .move (.tmp 1), 2, none, true⟩, ⟨some 11, .convert 2 64 (.tmp 10), 64, none, true⟩, ⟨some 12, .binOp .shl 64 (.tmp 11) (.const (.int .u64 1)) 65, 64, none, true⟩, ⟨some 6, .assign (.tmp 12), 64, none, true⟩])
  (.seq (.seq (.region [⟨some 13, .move (.tmp 1), 2, none, true⟩, ⟨some 14, .binOp .lss 2 (.tmp 13) (.const (.int .i64 0)) 2, 4, none, true⟩])
  (.cond (.tmp 14) (.region [⟨some 15, .move (.tmp 1), 2, none, true⟩, ⟨some 16, .binOp .add 2 (.tmp 15) (.const (.int .i64 1)) 2, 2, none, true⟩, ⟨some 17, .unOp .neg 2 (.tmp 16), 2, none, true⟩, ⟨some 18, .convert 2 64 (.tmp 17), 64, none, true⟩, ⟨some 19, .binOp .shl 64 (.tmp 18) (.const (.int .u64 1)) 65, 64, none, true⟩, ⟨some 20, .binOp .or 64 (.tmp 19) (.const (.int .u64 1)) 64, 64, none, true⟩, ⟨some 6, .assign (.tmp 20), 64, none, true⟩]) .skip))
  (.seq (.block 0 (.loop [false, false, false, false, false, true, true, false, false, false, false, false, false, false, false, false, false, false, false, false, false, false, false, false, false, false, false, false, false, false, false, false, false, false, false, false, false] (.seq (.seq (.region [⟨some 21, .move (.tmp 6), 64, none, true⟩, ⟨some 22, .binOp .gtr 64 (.tmp 21) (.const (.int .u64 127)) 64, 4, none, true⟩])
  (.cond (.tmp 22) .skip (.exit 0)))
  (.block 1 (.seq (.region [⟨some 23, .move (.tmp 5), 25, none, true⟩, ⟨some 24, .move (.tmp 6), 64, none, true⟩, ⟨some 25, .binOp .and 64 (.tmp 24) (.const (.int .u64 127)) 64, 64, none, true⟩, ⟨some 26, .convert 64 5 (.tmp 25), 5, none, true⟩, ⟨some 27, .binOp .or 5 (.tmp 26) (.const (.int .u8 128)) 5, 5, none, true⟩, ⟨some 28, .buildSlice 25 1 #[(0, .tmp 27)], 25, none, true⟩, ⟨some 29, .call (⟨.builtin .append, #[.tmp 23, .tmp 28], #[25, 25]⟩), 25, none, true⟩, ⟨some 5, .assign (.tmp 29), 25, none, true⟩])
  (.region [⟨some 30, .move (.tmp 6), 64, none, true⟩, ⟨some 31, .binOp .shr 64 (.tmp 30) (.const (.int .u64 7)) 65, 64, none, true⟩, ⟨some 6, .assign (.tmp 31), 64, none, true⟩]))))))
  (.seq (.region [⟨some 32, .move (.tmp 5), 25, none, true⟩, ⟨some 33, .move (.tmp 6), 64, none, true⟩, ⟨some 34, .convert 64 5 (.tmp 33), 5, none, true⟩, ⟨some 35, .buildSlice 25 1 #[(0, .tmp 34)], 25, none, true⟩, ⟨some 36, .call (⟨.builtin .append, #[.tmp 32, .tmp 35], #[25, 25]⟩), 25, none, true⟩, ⟨some 4, .assign (.tmp 36), 25, none, true⟩])
  .ret)))))
noncomputable def f22 : AFn := ⟨37, [.tmp 4], b22⟩
/-- novation/event.Get -/
noncomputable def b23 : AC :=
  .seq (.region [⟨some 2, .box 23 (.tmp 0), 0, none, true⟩, ⟨some 4, .assign (.const (.int .i64 0)), 2, none, true⟩])
  (.seq (.seq (.region [⟨some 5, .move (.tmp 1), 5, none, true⟩])
  (.block 0 (.seq (.region [⟨some 7, .binOp .eql 5 (.tmp 5) (.const (.int .u8 77)) 5, 4, none, true⟩, ⟨some 6, .assign (.tmp 7), 4, none, true⟩])
  (.cond (.tmp 6) (.seq (.region [⟨some 8, .fieldAddr 23 (.tmp 2) 1, 0, none, true⟩, ⟨some 9, .load 3 (.tmp 8), 3, none, true⟩, ⟨some 4, .assign (.tmp 9), 2, none, true⟩])
  .ret) (.seq (.region [⟨some 11, .binOp .eql 5 (.tmp 5) (.const (.int .u8 65)) 5, 4, none, true⟩, ⟨some 10, .assign (.tmp 11), 4, none, true⟩])
  (.cond (.tmp 10) (.seq (.region [⟨some 12, .fieldAddr 23 (.tmp 2) 2, 0, none, true⟩, ⟨some 13, .load 3 (.tmp 12), 3, none, true⟩, ⟨some 4, .assign (.tmp 13), 2, none, true⟩])
  .ret) (.seq (.region [⟨some 15, .binOp .eql 5 (.tmp 5) (.const (.int .u8 73)) 5, 4, none, true⟩, ⟨some 14, .assign (.tmp 15), 4, none, true⟩])
  (.cond (.tmp 14) (.seq (.region [⟨some 16, .fieldAddr 23 (.tmp 2) 3, 0, none, true⟩, ⟨some 17, .load 3 (.tmp 16), 3, none, true⟩, ⟨some 4, .assign (.tmp 17), 2, none, true⟩])
  .ret) (.seq (.region [⟨some 19, .binOp .eql 5 (.tmp 5) (.const (.int .u8 83)) 5, 4, none, true⟩, ⟨some 18, .assign (.tmp 19), 4, none, true⟩])
  (.cond (.tmp 18) (.seq (.region [⟨some 20, .fieldAddr 23 (.tmp 2) 4, 0, none, true⟩, ⟨some 21, .load 3 (.tmp 20), 3, none, true⟩, ⟨some 4, .assign (.tmp 21), 2, none, true⟩])
  .ret) (.seq (.region [⟨some 23, .binOp .eql 5 (.tmp 5) (.const (.int .u8 68)) 5, 4, none, true⟩, ⟨some 22, .assign (.tmp 23), 4, none, true⟩])
  (.cond (.tmp 22) (.seq (.region [⟨some 24, .fieldAddr 23 (.tmp 2) 5, 0, none, true⟩, ⟨some 25, .load 2 (.tmp 24), 2, none, true⟩, ⟨some 4, .assign (.tmp 25), 2, none, true⟩])
  .ret) (.seq (.region [⟨some 27, .binOp .eql 5 (.tmp 5) (.const (.int .u8 81)) 5, 4, none, true⟩, ⟨some 26, .assign (.tmp 27), 4, none, true⟩])
  (.cond (.tmp 26) (.seq (.region [⟨some 28, .fieldAddr 23 (.tmp 2) 6, 0, none, true⟩, ⟨some 29, .load 2 (.tmp 28), 2, none, true⟩, ⟨some 4, .assign (.tmp 29), 2, none, true⟩])
  .ret) .skip))))))))))))))
  (.seq (.region [⟨some 30, .fieldAddr 23 (.tmp 2) 7, 0, none, true⟩, ⟨some 31, .load 2 (.tmp 30), 2, none, true⟩, ⟨some 4, .assign (.tmp 31), 2, none, true⟩])
  .ret))
noncomputable def f23 : AFn := ⟨32, [.tmp 4], b23⟩
/-- slices.Clip[[]byte,byte] -/
noncomputable def b24 : AC :=
  .seq (.region [⟨some 2, .assign (.const (.slice none 0 0)), 25, none, true⟩])
  (.seq (.region [⟨some 3, .move (.tmp 0), 25, none, true⟩, ⟨some 4, .move (.tmp 0), 25, none, true⟩, ⟨some 5, .call (⟨.builtin .len, #[.tmp 4], #[25]⟩), 3, none, true⟩, ⟨some 6, .move (.tmp 0), 25, none, true⟩, ⟨some 7, .call (⟨.builtin .len, #[.tmp 6], #[25]⟩), 3, none, true⟩, ⟨some 8, .slice 25 (.tmp 3) none (some (.tmp 5)) (some (.tmp 7)), 25, none, true⟩, ⟨some 2, .assign (.tmp 8), 25, none, true⟩])
  .ret)
noncomputable def f24 : AFn := ⟨9, [.tmp 2], b24⟩
/-- novation/novationref4.value -/
noncomputable def b25 : AC :=
  .seq (.region [⟨some 2, .box 23 (.tmp 0), 0, none, true⟩, ⟨some 4, .assign (.const (.int .i64 0)), 2, none, true⟩])
  (.seq (.seq (.region [⟨some 5, .move (.tmp 1), 5, none, true⟩])
  (.block 0 (.seq (.region [⟨some 7, .binOp .eql 5 (.tmp 5) (.const (.int .u8 77)) 5, 4, none, true⟩, ⟨some 6, .assign (.tmp 7), 4, none, true⟩])
  (.cond (.tmp 6) (.seq (.region [⟨some 8, .fieldAddr 23 (.tmp 2) 1, 0, none, true⟩, ⟨some 9, .load 3 (.tmp 8), 3, none, true⟩, ⟨some 4, .assign (.tmp 9), 2, none, true⟩])
  .ret) (.seq (.region [⟨some 11, .binOp .eql 5 (.tmp 5) (.const (.int .u8 65)) 5, 4, none, true⟩, ⟨some 10, .assign (.tmp 11), 4, none, true⟩])
  (.cond (.tmp 10) (.seq (.region [⟨some 12, .fieldAddr 23 (.tmp 2) 2, 0, none, true⟩, ⟨some 13, .load 3 (.tmp 12), 3, none, true⟩, ⟨some 4, .assign (.tmp 13), 2, none, true⟩])
  .ret) (.seq (.region [⟨some 15, .binOp .eql 5 (.tmp 5) (.const (.int .u8 73)) 5, 4, none, true⟩, ⟨some 14, .assign (.tmp 15), 4, none, true⟩])
  (.cond (.tmp 14) (.seq (.region [⟨some 16, .fieldAddr 23 (.tmp 2) 3, 0, none, true⟩, ⟨some 17, .load 3 (.tmp 16), 3, none, true⟩, ⟨some 4, .assign (.tmp 17), 2, none, true⟩])
  .ret) (.seq (.region [⟨some 19, .binOp .eql 5 (.tmp 5) (.const (.int .u8 83)) 5, 4, none, true⟩, ⟨some 18, .assign (.tmp 19), 4, none, true⟩])
  (.cond (.tmp 18) (.seq (.region [⟨some 20, .fieldAddr 23 (.tmp 2) 4, 0, none, true⟩, ⟨some 21, .load 3 (.tmp 20), 3, none, true⟩, ⟨some 4, .assign (.tmp 21), 2, none, true⟩])
  .ret) (.seq (.region [⟨some 23, .binOp .eql 5 (.tmp 5) (.const (.int .u8 68)) 5, 4, none, true⟩, ⟨some 22, .assign (.tmp 23), 4, none, true⟩])
  (.cond (.tmp 22) (.seq (.region [⟨some 24, .fieldAddr 23 (.tmp 2) 5, 0, none, true⟩, ⟨some 25, .load 2 (.tmp 24), 2, none, true⟩, ⟨some 4, .assign (.tmp 25), 2, none, true⟩])
  .ret) (.seq (.region [⟨some 27, .binOp .eql 5 (.tmp 5) (.const (.int .u8 81)) 5, 4, none, true⟩, ⟨some 26, .assign (.tmp 27), 4, none, true⟩])
  (.cond (.tmp 26) (.seq (.region [⟨some 28, .fieldAddr 23 (.tmp 2) 6, 0, none, true⟩, ⟨some 29, .load 2 (.tmp 28), 2, none, true⟩, ⟨some 4, .assign (.tmp 29), 2, none, true⟩])
  .ret) .skip))))))))))))))
  (.seq (.region [⟨some 30, .fieldAddr 23 (.tmp 2) 7, 0, none, true⟩, ⟨some 31, .load 2 (.tmp 30), 2, none, true⟩, ⟨some 4, .assign (.tmp 31), 2, none, true⟩])
  .ret))
noncomputable def f25 : AFn := ⟨32, [.tmp 4], b25⟩
/-- novation/event.bounds -/
noncomputable def b26 : AC :=
  .seq (.region [⟨some 4, .assign (.const (.int .i64 0)), 2, none, true⟩, ⟨some 5, .assign (.const (.int .i64 0)), 2, none, true⟩])
  (.seq (.seq (.region [⟨some 6, .move (.tmp 1), 5, none, true⟩])
  (.block 0 (.seq (.region [⟨some 8, .binOp .eql 5 (.tmp 6) (.const (.int .u8 77)) 5, 4, none, true⟩, ⟨some 7, .assign (.tmp 8), 4, none, true⟩])
  (.cond (.tmp 7) (.seq (.region [⟨some 4, .assign (.const (.int .i64 1)), 2, none, true⟩, ⟨some 5, .assign (.const (.int .i64 12)), 2, none, true⟩])
  .ret) (.seq (.region [⟨some 10, .binOp .eql 5 (.tmp 6) (.const (.int .u8 65)) 5, 4, none, true⟩, ⟨some 9, .assign (.tmp 10), 4, none, true⟩])
  (.cond (.tmp 9) (.seq (.region [⟨some 4, .assign (.const (.int .i64 1)), 2, none, true⟩, ⟨some 5, .assign (.const (.int .i64 24)), 2, none, true⟩])
  .ret) (.seq (.region [⟨some 12, .binOp .eql 5 (.tmp 6) (.const (.int .u8 73)) 5, 4, none, true⟩, ⟨some 11, .assign (.tmp 12), 4, none, true⟩])
  (.cond (.tmp 11) (.seq (.region [⟨some 4, .assign (.const (.int .i64 0)), 2, none, true⟩, ⟨some 5, .assign (.const (.int .i64 5)), 2, none, true⟩])
  .ret) (.seq (.region [⟨some 14, .binOp .eql 5 (.tmp 6) (.const (.int .u8 83)) 5, 4, none, true⟩, ⟨some 13, .assign (.tmp 14), 4, none, true⟩])
  (.cond (.tmp 13) (.seq (.region [⟨some 4, .assign (.const (.int .i64 1)), 2, none, true⟩, ⟨some 5, .assign (.const (.int .i64 2)), 2, none, true⟩])
  .ret) (.seq (.region [⟨some 16, .binOp .eql 5 (.tmp 6) (.const (.int .u8 68)) 5, 4, none, true⟩, ⟨some 15, .assign (.tmp 16), 4, none, true⟩])
  (.cond (.tmp 15) (.seq (.region [⟨some 4, .assign (.const (.int .i64 1)), 2, none, true⟩, ⟨some 5, .assign (.const (.int .i64 1099511627776)), 2, none, true⟩])
  .ret) .skip))))))))))))
  (.seq (.block 1 (.seq (.region [⟨some 18, .move (.tmp 1), 5, none, true⟩, ⟨some 19, .binOp .eql 5 (.tmp 18) (.const (.int .u8 80)) 5, 4, none, true⟩, ⟨some 20, .move (.tmp 19), 4, none, true⟩, ⟨some 21, .move (.tmp 0), 3, some (some 20), true⟩, ⟨some 22, .binOp .eql 3 (.tmp 21) (.const (.int .i64 19)) 3, 4, some (some 20), true⟩, ⟨some 23, .pick (.tmp 20) (.tmp 22) (.const (.bool false)), 4, none, true⟩, ⟨some 17, .assign (.tmp 23), 4, none, true⟩])
  (.cond (.tmp 17) (.seq (.region [⟨some 4, .assign (.const (.int .i64 (-1152921504606846976))), 2, none, true⟩, ⟨some 5, .assign (.const (.int .i64 1152921504606846976)), 2, none, true⟩])
  .ret) (.seq (.region [⟨some 25, .move (.tmp 1), 5, none, true⟩, ⟨some 26, .binOp .eql 5 (.tmp 25) (.const (.int .u8 80)) 5, 4, none, true⟩, ⟨some 24, .assign (.tmp 26), 4, none, true⟩])
  (.cond (.tmp 24) (.seq (.region [⟨some 4, .assign (.const (.int .i64 1)), 2, none, true⟩, ⟨some 5, .assign (.const (.int .i64 1000000000000)), 2, none, true⟩])
  .ret) (.seq (.region [⟨some 28, .move (.tmp 0), 3, none, true⟩, ⟨some 29, .binOp .eql 3 (.tmp 28) (.const (.int .i64 6)) 3, 4, none, true⟩, ⟨some 27, .assign (.tmp 29), 4, none, true⟩])
  (.cond (.tmp 27) (.seq (.region [⟨some 4, .assign (.const (.int .i64 0)), 2, none, true⟩, ⟨some 5, .assign (.const (.int .i64 1000000000000)), 2, none, true⟩])
  .ret) (.seq (.region [⟨some 31, .move (.tmp 0), 3, none, true⟩, ⟨some 32, .binOp .eql 3 (.tmp 31) (.const (.int .i64 10)) 3, 4, none, true⟩, ⟨some 30, .assign (.tmp 32), 4, none, true⟩])
  (.cond (.tmp 30) (.seq (.region [⟨some 4, .assign (.const (.int .i64 1)), 2, none, true⟩, ⟨some 5, .assign (.const (.int .i64 1000000)), 2, none, true⟩])
  .ret) (.seq (.region [⟨some 34, .move (.tmp 0), 3, none, true⟩, ⟨some 35, .binOp .eql 3 (.tmp 34) (.const (.int .i64 7)) 3, 4, none, true⟩, ⟨some 36, .move (.tmp 35), 4, none, true⟩, ⟨some 37, .move (.tmp 0), 3, some (some 36), false⟩, ⟨some 38, .binOp .eql 3 (.tmp 37) (.const (.int .i64 17)) 3, 4, some (some 36), false⟩, ⟨some 39, .pick (.tmp 36) (.const (.bool true)) (.tmp 38), 4, none, true⟩, ⟨some 33, .assign (.tmp 39), 4, none, true⟩])
  (.cond (.tmp 33) (.seq (.region [⟨some 4, .assign (.const (.int .i64 1)), 2, none, true⟩, ⟨some 5, .assign (.const (.int .i64 1000000000)), 2, none, true⟩])
  .ret) .skip)))))))))))
  (.seq (.region [⟨some 4, .assign (.const (.int .i64 1)), 2, none, true⟩, ⟨some 5, .assign (.const (.int .i64 9223372036854775807)), 2, none, true⟩])
  .ret)))
noncomputable def f26 : AFn := ⟨40, [.tmp 4, .tmp 5], b26⟩
/-- novation/event.With -/
noncomputable def b27 : AC :=
  .seq (.region [⟨some 3, .box 23 (.tmp 0), 0, none, true⟩, ⟨some 6, .alloc 23, 0, none, true⟩])
  (.seq (.seq (.region [⟨some 7, .move (.tmp 1), 5, none, true⟩])
  (.block 0 (.seq (.region [⟨some 11, .binOp .eql 5 (.tmp 7) (.const (.int .u8 77)) 5, 4, none, true⟩, ⟨some 10, .assign (.tmp 11), 4, none, true⟩])
  (.cond (.tmp 10) (.region [⟨some 12, .move (.tmp 2), 2, none, true⟩, ⟨some 13, .fieldAddr 23 (.tmp 3) 1, 0, none, true⟩, ⟨none, .store 3 (.tmp 13) (.tmp 12), 0, none, true⟩]) (.seq (.region [⟨some 15, .binOp .eql 5 (.tmp 7) (.const (.int .u8 65)) 5, 4, none, true⟩, ⟨some 14, .assign (.tmp 15), 4, none, true⟩])
  (.cond (.tmp 14) (.region [⟨some 16, .move (.tmp 2), 2, none, true⟩, ⟨some 17, .fieldAddr 23 (.tmp 3) 2, 0, none, true⟩, ⟨none, .store 3 (.tmp 17) (.tmp 16), 0, none, true⟩]) (.seq (.region [⟨some 19, .binOp .eql 5 (.tmp 7) (.const (.int .u8 73)) 5, 4, none, true⟩, ⟨some 18, .assign (.tmp 19), 4, none, true⟩])
  (.cond (.tmp 18) (.region [⟨some 20, .move (.tmp 2), 2, none, true⟩, ⟨some 21, .fieldAddr 23 (.tmp 3) 3, 0, none, true⟩, ⟨none, .store 3 (.tmp 21) (.tmp 20), 0, none, true⟩]) (.seq (.region [⟨some 23, .binOp .eql 5 (.tmp 7) (.const (.int .u8 83)) 5, 4, none, true⟩, ⟨some 22, .assign (.tmp 23), 4, none, true⟩])
  (.cond (.tmp 22) (.region [⟨some 24, .move (.tmp 2), 2, none, true⟩, ⟨some 25, .fieldAddr 23 (.tmp 3) 4, 0, none, true⟩, ⟨none, .store 3 (.tmp 25) (.tmp 24), 0, none, true⟩]) (.seq (.region [⟨some 27, .binOp .eql 5 (.tmp 7) (.const (.int .u8 68)) 5, 4, none, true⟩, ⟨some 26, .assign (.tmp 27), 4, none, true⟩])
  (.cond (.tmp 26) (.region [⟨some 28, .move (.tmp 2), 2, none, true⟩, ⟨some 29, .fieldAddr 23 (.tmp 3) 5, 0, none, true⟩, ⟨none, .store 2 (.tmp 29) (.tmp 28), 0, none, true⟩]) (.seq (.region [⟨some 31, .binOp .eql 5 (.tmp 7) (.const (.int .u8 81)) 5, 4, none, true⟩, ⟨some 30, .assign (.tmp 31), 4, none, true⟩])
  (.cond (.tmp 30) (.region [⟨some 32, .move (.tmp 2), 2, none, true⟩, ⟨some 33, .fieldAddr 23 (.tmp 3) 6, 0, none, true⟩, ⟨none, .store 2 (.tmp 33) (.tmp 32), 0, none, true⟩]) (.region [⟨some 8, .move (.tmp 2), 2, none, true⟩, ⟨some 9, .fieldAddr 23 (.tmp 3) 7, 0, none, true⟩, ⟨none, .store 2 (.tmp 9) (.tmp 8), 0, none, true⟩])))))))))))))))
  (.seq (.region [⟨some 34, .load 23 (.tmp 3), 23, none, true⟩, ⟨none, .store 23 (.tmp 6) (.tmp 34), 0, none, true⟩])
  .ret))
noncomputable def f27 : AFn := ⟨35, [.cell 6 23], b27⟩
/-- novation/novationref4.Kind -/
noncomputable def b28 : AC :=
  .seq (.region [⟨some 2, .assign (.const (.bool false)), 4, none, true⟩])
  (.seq (.region [⟨some 3, .move (.tmp 0), 3, none, true⟩, ⟨some 4, .binOp .geq 3 (.tmp 3) (.const (.int .i64 1)) 3, 4, none, true⟩, ⟨some 5, .move (.tmp 4), 4, none, true⟩, ⟨some 6, .move (.tmp 0), 3, some (some 5), true⟩, ⟨some 7, .binOp .leq 3 (.tmp 6) (.const (.int .i64 22)) 3, 4, some (some 5), true⟩, ⟨some 8, .pick (.tmp 5) (.tmp 7) (.const (.bool false)), 4, none, true⟩, ⟨some 2, .assign (.tmp 8), 4, none, true⟩])
  .ret)
noncomputable def f28 : AFn := ⟨9, [.tmp 2], b28⟩
/-- novation/novationref4.bounds -/
noncomputable def b29 : AC :=
  .seq (.region [⟨some 4, .assign (.const (.int .i64 0)), 2, none, true⟩, ⟨some 5, .assign (.const (.int .i64 0)), 2, none, true⟩])
  (.seq (.seq (.region [⟨some 6, .move (.tmp 1), 5, none, true⟩])
  (.block 0 (.seq (.region [⟨some 8, .binOp .eql 5 (.tmp 6) (.const (.int .u8 77)) 5, 4, none, true⟩, ⟨some 7, .assign (.tmp 8), 4, none, true⟩])
  (.cond (.tmp 7) (.seq (.region [⟨some 4, .assign (.const (.int .i64 1)), 2, none, true⟩, ⟨some 5, .assign (.const (.int .i64 12)), 2, none, true⟩])
  .ret) (.seq (.region [⟨some 10, .binOp .eql 5 (.tmp 6) (.const (.int .u8 65)) 5, 4, none, true⟩, ⟨some 9, .assign (.tmp 10), 4, none, true⟩])
  (.cond (.tmp 9) (.seq (.region [⟨some 4, .assign (.const (.int .i64 1)), 2, none, true⟩, ⟨some 5, .assign (.const (.int .i64 24)), 2, none, true⟩])
  .ret) (.seq (.region [⟨some 12, .binOp .eql 5 (.tmp 6) (.const (.int .u8 73)) 5, 4, none, true⟩, ⟨some 11, .assign (.tmp 12), 4, none, true⟩])
  (.cond (.tmp 11) (.seq (.region [⟨some 4, .assign (.const (.int .i64 0)), 2, none, true⟩, ⟨some 5, .assign (.const (.int .i64 5)), 2, none, true⟩])
  .ret) (.seq (.region [⟨some 14, .binOp .eql 5 (.tmp 6) (.const (.int .u8 83)) 5, 4, none, true⟩, ⟨some 13, .assign (.tmp 14), 4, none, true⟩])
  (.cond (.tmp 13) (.seq (.region [⟨some 4, .assign (.const (.int .i64 1)), 2, none, true⟩, ⟨some 5, .assign (.const (.int .i64 2)), 2, none, true⟩])
  .ret) (.seq (.region [⟨some 16, .binOp .eql 5 (.tmp 6) (.const (.int .u8 68)) 5, 4, none, true⟩, ⟨some 15, .assign (.tmp 16), 4, none, true⟩])
  (.cond (.tmp 15) (.seq (.region [⟨some 4, .assign (.const (.int .i64 1)), 2, none, true⟩, ⟨some 5, .assign (.const (.int .i64 1099511627776)), 2, none, true⟩])
  .ret) (.seq (.region [⟨some 18, .binOp .eql 5 (.tmp 6) (.const (.int .u8 81)) 5, 4, none, true⟩, ⟨some 17, .assign (.tmp 18), 4, none, true⟩])
  (.cond (.tmp 17) (.seq (.region [⟨some 19, .move (.tmp 0), 3, none, true⟩, ⟨some 20, .call (⟨.value (.func 39), #[.tmp 19], #[3]⟩), 50, none, true⟩, ⟨some 21, .extract (.tmp 20) 0, 2, none, true⟩, ⟨some 22, .extract (.tmp 20) 1, 2, none, true⟩, ⟨some 4, .assign (.tmp 21), 2, none, true⟩, ⟨some 5, .assign (.tmp 22), 2, none, true⟩])
  .ret) .skip))))))))))))))
  (.seq (.region [⟨some 23, .move (.tmp 0), 3, none, true⟩, ⟨some 24, .call (⟨.value (.func 40), #[.tmp 23], #[3]⟩), 50, none, true⟩, ⟨some 25, .extract (.tmp 24) 0, 2, none, true⟩, ⟨some 26, .extract (.tmp 24) 1, 2, none, true⟩, ⟨some 4, .assign (.tmp 25), 2, none, true⟩, ⟨some 5, .assign (.tmp 26), 2, none, true⟩])
  .ret))
noncomputable def f29 : AFn := ⟨27, [.tmp 4, .tmp 5], b29⟩
/-- novation/novationref4.with -/
noncomputable def b30 : AC :=
  .seq (.region [⟨some 3, .box 23 (.tmp 0), 0, none, true⟩, ⟨some 6, .alloc 23, 0, none, true⟩])
  (.seq (.seq (.region [⟨some 7, .move (.tmp 1), 5, none, true⟩])
  (.block 0 (.seq (.region [⟨some 11, .binOp .eql 5 (.tmp 7) (.const (.int .u8 77)) 5, 4, none, true⟩, ⟨some 10, .assign (.tmp 11), 4, none, true⟩])
  (.cond (.tmp 10) (.region [⟨some 12, .move (.tmp 2), 2, none, true⟩, ⟨some 13, .fieldAddr 23 (.tmp 3) 1, 0, none, true⟩, ⟨none, .store 3 (.tmp 13) (.tmp 12), 0, none, true⟩]) (.seq (.region [⟨some 15, .binOp .eql 5 (.tmp 7) (.const (.int .u8 65)) 5, 4, none, true⟩, ⟨some 14, .assign (.tmp 15), 4, none, true⟩])
  (.cond (.tmp 14) (.region [⟨some 16, .move (.tmp 2), 2, none, true⟩, ⟨some 17, .fieldAddr 23 (.tmp 3) 2, 0, none, true⟩, ⟨none, .store 3 (.tmp 17) (.tmp 16), 0, none, true⟩]) (.seq (.region [⟨some 19, .binOp .eql 5 (.tmp 7) (.const (.int .u8 73)) 5, 4, none, true⟩, ⟨some 18, .assign (.tmp 19), 4, none, true⟩])
  (.cond (.tmp 18) (.region [⟨some 20, .move (.tmp 2), 2, none, true⟩, ⟨some 21, .fieldAddr 23 (.tmp 3) 3, 0, none, true⟩, ⟨none, .store 3 (.tmp 21) (.tmp 20), 0, none, true⟩]) (.seq (.region [⟨some 23, .binOp .eql 5 (.tmp 7) (.const (.int .u8 83)) 5, 4, none, true⟩, ⟨some 22, .assign (.tmp 23), 4, none, true⟩])
  (.cond (.tmp 22) (.region [⟨some 24, .move (.tmp 2), 2, none, true⟩, ⟨some 25, .fieldAddr 23 (.tmp 3) 4, 0, none, true⟩, ⟨none, .store 3 (.tmp 25) (.tmp 24), 0, none, true⟩]) (.seq (.region [⟨some 27, .binOp .eql 5 (.tmp 7) (.const (.int .u8 68)) 5, 4, none, true⟩, ⟨some 26, .assign (.tmp 27), 4, none, true⟩])
  (.cond (.tmp 26) (.region [⟨some 28, .move (.tmp 2), 2, none, true⟩, ⟨some 29, .fieldAddr 23 (.tmp 3) 5, 0, none, true⟩, ⟨none, .store 2 (.tmp 29) (.tmp 28), 0, none, true⟩]) (.seq (.region [⟨some 31, .binOp .eql 5 (.tmp 7) (.const (.int .u8 81)) 5, 4, none, true⟩, ⟨some 30, .assign (.tmp 31), 4, none, true⟩])
  (.cond (.tmp 30) (.region [⟨some 32, .move (.tmp 2), 2, none, true⟩, ⟨some 33, .fieldAddr 23 (.tmp 3) 6, 0, none, true⟩, ⟨none, .store 2 (.tmp 33) (.tmp 32), 0, none, true⟩]) (.region [⟨some 8, .move (.tmp 2), 2, none, true⟩, ⟨some 9, .fieldAddr 23 (.tmp 3) 7, 0, none, true⟩, ⟨none, .store 2 (.tmp 9) (.tmp 8), 0, none, true⟩])))))))))))))))
  (.seq (.region [⟨some 34, .load 23 (.tmp 3), 23, none, true⟩, ⟨none, .store 23 (.tmp 6) (.tmp 34), 0, none, true⟩])
  .ret))
noncomputable def f30 : AFn := ⟨35, [.cell 6 23], b30⟩
/-- (*novation/novationseat.Deck).N -/
noncomputable def b31 : AC :=
  .seq (.region [⟨some 4, .assign (.const (.int .i64 0)), 3, none, true⟩])
  (.seq (.region [⟨some 5, .move (.tmp 0), 33, none, true⟩, ⟨some 6, .call (⟨.value (.func 41), #[.tmp 5], #[33]⟩), 64, none, true⟩, ⟨some 7, .move (.tmp 1), 3, none, true⟩, ⟨some 8, .convert 3 64 (.tmp 7), 64, none, true⟩, ⟨some 9, .binOp .rem 64 (.tmp 6) (.tmp 8) 64, 64, none, true⟩, ⟨some 10, .convert 64 3 (.tmp 9), 3, none, true⟩, ⟨some 4, .assign (.tmp 10), 3, none, true⟩])
  .ret)
noncomputable def f31 : AFn := ⟨11, [.tmp 4], b31⟩
/-- (*novation/novationseat.Deck).Some -/
noncomputable def b32 : AC :=
  .seq (.region [⟨some 2, .assign (.const (.int .i64 0)), 2, none, true⟩])
  (.seq (.region [⟨some 4, .move (.tmp 0), 33, none, true⟩, ⟨some 5, .call (⟨.value (.func 41), #[.tmp 4], #[33]⟩), 64, none, true⟩, ⟨some 3, .assign (.tmp 5), 64, none, true⟩])
  (.seq (.seq (.region [⟨some 6, .move (.tmp 3), 64, none, true⟩, ⟨some 7, .binOp .rem 64 (.tmp 6) (.const (.int .u64 8)) 64, 64, none, true⟩])
  (.block 0 (.seq (.region [⟨some 9, .binOp .eql 64 (.tmp 7) (.const (.int .u64 0)) 64, 4, none, true⟩, ⟨some 8, .assign (.tmp 9), 4, none, true⟩])
  (.cond (.tmp 8) (.seq (.region [⟨some 10, .move (.tmp 3), 64, none, true⟩, ⟨some 11, .binOp .shr 64 (.tmp 10) (.const (.int .u64 1)) 65, 64, none, true⟩, ⟨some 12, .convert 64 2 (.tmp 11), 2, none, true⟩, ⟨some 2, .assign (.tmp 12), 2, none, true⟩])
  .ret) (.seq (.region [⟨some 14, .binOp .eql 64 (.tmp 7) (.const (.int .u64 1)) 64, 4, none, true⟩, ⟨some 13, .assign (.tmp 14), 4, none, true⟩])
  (.cond (.tmp 13) (.seq (.region [⟨some 15, .move (.tmp 3), 64, none, true⟩, ⟨some 16, .binOp .shr 64 (.tmp 15) (.const (.int .u64 3)) 65, 64, none, true⟩, ⟨some 17, .binOp .rem 64 (.tmp 16) (.const (.int .u64 1000000000000)) 64, 64, none, true⟩, ⟨some 18, .convert 64 2 (.tmp 17), 2, none, true⟩, ⟨some 2, .assign (.tmp 18), 2, none, true⟩])
  .ret) (.seq (.region [⟨some 20, .binOp .eql 64 (.tmp 7) (.const (.int .u64 2)) 64, 4, none, true⟩, ⟨some 19, .assign (.tmp 20), 4, none, true⟩])
  (.cond (.tmp 19) (.seq (.region [⟨some 21, .move (.tmp 3), 64, none, true⟩, ⟨some 22, .binOp .shr 64 (.tmp 21) (.const (.int .u64 3)) 65, 64, none, true⟩, ⟨some 23, .binOp .rem 64 (.tmp 22) (.const (.int .u64 2)) 64, 64, none, true⟩, ⟨some 24, .convert 64 2 (.tmp 23), 2, none, true⟩, ⟨some 2, .assign (.tmp 24), 2, none, true⟩])
  .ret) .skip))))))))
  (.seq (.region [⟨some 25, .move (.tmp 3), 64, none, true⟩, ⟨some 26, .binOp .shr 64 (.tmp 25) (.const (.int .u64 3)) 65, 64, none, true⟩, ⟨some 27, .binOp .rem 64 (.tmp 26) (.const (.int .u64 5000)) 64, 64, none, true⟩, ⟨some 28, .convert 64 2 (.tmp 27), 2, none, true⟩, ⟨some 2, .assign (.tmp 28), 2, none, true⟩])
  .ret)))
noncomputable def f32 : AFn := ⟨29, [.tmp 2], b32⟩
/-- (*novation/novationseat.Deck).mark -/
noncomputable def b33 : AC :=
  .seq (.region [⟨some 4, .box 38 (.tmp 1), 0, none, true⟩, ⟨some 6, .alloc 23, 0, none, true⟩])
  (.seq (.draw (drawOf T.c33 1) [0, 1, 2, 3, 4, 5, 6, 7, 8, 14, 9, 10, 11, 12, 13, 15] [[], [], [1], [], [1, 2, 3], [1, 2, 3, 4], [1, 2, 3, 4, 5], [], [7], [1, 2, 3, 4, 5, 6, 7, 8], [1, 2, 3, 4, 5, 6, 7, 8, 9], [1, 2, 3, 4, 5, 6, 7, 8, 9, 10], [1, 2, 3, 4, 5, 6, 7, 8, 9, 10, 11], [0, 1, 2, 3, 4, 5, 6, 7, 8, 9, 10, 11, 12], [], [0, 1, 2, 3, 4, 5, 6, 7, 8, 9, 10, 11, 12, 13, 14]])
  (.seq (.seq (.region [⟨some 22, .move (.tmp 0), 33, none, true⟩, ⟨some 23, .call (⟨.value (.func 35), #[.tmp 22, .const (.int .i64 20)], #[33, 3]⟩), 4, none, true⟩])
  (.cond (.tmp 23) (.region [⟨some 24, .move (.tmp 0), 33, none, true⟩, ⟨some 25, .call (⟨.value (.func 32), #[.tmp 24], #[33]⟩), 2, none, true⟩, ⟨some 26, .binOp .rem 2 (.tmp 25) (.const (.int .i64 1000000000000)) 2, 2, none, true⟩, ⟨some 27, .binOp .add 2 (.const (.int .i64 1)) (.tmp 26) 2, 2, none, true⟩, ⟨some 28, .fieldAddr 23 (.tmp 7) 7, 0, none, true⟩, ⟨none, .store 2 (.tmp 28) (.tmp 27), 0, none, true⟩]) .skip))
  (.seq (.region [⟨some 29, .load 23 (.tmp 7), 23, none, true⟩, ⟨none, .store 23 (.tmp 6) (.tmp 29), 0, none, true⟩])
  .ret)))
noncomputable def f33 : AFn := ⟨30, [.cell 6 23], b33⟩
/-- (*novation/novationseat.Deck).order -/
noncomputable def b34 : AC :=
  .seq (.region [⟨some 3, .box 38 (.tmp 1), 0, none, true⟩, ⟨some 4, .alloc 23, 0, none, true⟩])
  (.seq (.region [⟨some 7, .move (.tmp 0), 33, none, true⟩, ⟨some 8, .fieldAddr 38 (.tmp 3) 0, 0, none, true⟩, ⟨some 9, .load 36 (.tmp 8), 36, none, true⟩, ⟨some 10, .call (⟨.builtin .len, #[.tmp 9], #[36]⟩), 3, none, true⟩, ⟨some 11, .call (⟨.value (.func 31), #[.tmp 7, .tmp 10], #[33, 3]⟩), 3, none, true⟩, ⟨some 5, .assign (.tmp 11), 3, none, true⟩])
  (.seq (.draw (drawOf T.c34 2) [0, 3, 4, 7, 10, 11, 12, 13, 14, 15, 16, 1, 2, 5, 6, 8, 9, 17, 23, 18, 19, 20, 21, 22, 24] [[], [0], [0, 1], [], [], [0, 1, 4], [0, 1, 4, 5], [], [0, 1, 4, 5, 7], [0, 1, 4, 5, 7, 8], [], [10], [], [10, 11, 12], [10, 11, 12, 13], [10, 11, 12, 13, 14], [], [0, 1, 4, 5, 7, 8, 16], [0, 1, 4, 5, 7, 8, 10, 11, 12, 13, 14, 15, 16, 17], [0, 1, 4, 5, 7, 8, 10, 11, 12, 13, 14, 15, 16, 17, 18], [0, 1, 4, 5, 7, 8, 10, 11, 12, 13, 14, 15, 16, 17, 18, 19], [0, 1, 4, 5, 7, 8, 10, 11, 12, 13, 14, 15, 16, 17, 18, 19, 20], [0, 1, 2, 3, 4, 5, 6, 7, 8, 9, 10, 11, 12, 13, 14, 15, 16, 17, 18, 19, 20, 21], [], [0, 1, 2, 3, 4, 5, 6, 7, 8, 9, 10, 11, 12, 13, 14, 15, 16, 17, 18, 19, 20, 21, 22, 23]])
  (.seq (.seq (.region [⟨some 35, .move (.tmp 0), 33, none, true⟩, ⟨some 36, .call (⟨.value (.func 35), #[.tmp 35, .const (.int .i64 30)], #[33, 3]⟩), 4, none, true⟩])
  (.cond (.tmp 36) (.region [⟨some 37, .move (.tmp 0), 33, none, true⟩, ⟨some 38, .call (⟨.value (.func 32), #[.tmp 37], #[33]⟩), 2, none, true⟩, ⟨some 39, .binOp .rem 2 (.tmp 38) (.const (.int .i64 1000000000)) 2, 2, none, true⟩, ⟨some 40, .binOp .add 2 (.const (.int .i64 1)) (.tmp 39) 2, 2, none, true⟩, ⟨some 41, .move (.tmp 0), 33, none, true⟩, ⟨some 42, .call (⟨.value (.func 32), #[.tmp 41], #[33]⟩), 2, none, true⟩, ⟨some 43, .binOp .rem 2 (.tmp 42) (.const (.int .i64 1000000000000)) 2, 2, none, true⟩, ⟨some 44, .binOp .add 2 (.const (.int .i64 1)) (.tmp 43) 2, 2, none, true⟩, ⟨some 45, .fieldAddr 23 (.tmp 6) 6, 0, none, true⟩, ⟨none, .store 2 (.tmp 45) (.tmp 40), 0, none, true⟩, ⟨some 46, .fieldAddr 23 (.tmp 6) 7, 0, none, true⟩, ⟨none, .store 2 (.tmp 46) (.tmp 44), 0, none, true⟩]) .skip))
  (.seq (.region [⟨some 47, .load 23 (.tmp 6), 23, none, true⟩, ⟨none, .store 23 (.tmp 4) (.tmp 47), 0, none, true⟩])
  .ret))))
noncomputable def f34 : AFn := ⟨48, [.cell 4 23], b34⟩
/-- (*novation/novationseat.Deck).Yes -/
noncomputable def b35 : AC :=
  .seq (.region [⟨some 4, .assign (.const (.bool false)), 4, none, true⟩])
  (.seq (.region [⟨some 5, .move (.tmp 0), 33, none, true⟩, ⟨some 6, .move (.tmp 1), 3, none, true⟩, ⟨some 7, .call (⟨.value (.func 31), #[.tmp 5, .tmp 6], #[33, 3]⟩), 3, none, true⟩, ⟨some 8, .move (.tmp 1), 3, none, true⟩, ⟨some 9, .binOp .sub 3 (.tmp 8) (.const (.int .i64 1)) 3, 3, none, true⟩, ⟨some 10, .binOp .eql 3 (.tmp 7) (.tmp 9) 3, 4, none, true⟩, ⟨some 4, .assign (.tmp 10), 4, none, true⟩])
  .ret)
noncomputable def f35 : AFn := ⟨11, [.tmp 4], b35⟩
/-- novation/novationref4.ReadEvent -/
noncomputable def b36 : AC :=
  .seq (.region [⟨some 2, .alloc 23, 0, none, true⟩, ⟨some 3, .assign (.const (.int .i64 0)), 26, none, true⟩])
  (.seq (.seq (.region [⟨some 10, .move (.tmp 0), 25, none, true⟩, ⟨some 11, .call (⟨.builtin .len, #[.tmp 10], #[25]⟩), 3, none, true⟩, ⟨some 12, .binOp .eql 3 (.tmp 11) (.const (.int .i64 0)) 3, 4, none, true⟩, ⟨some 13, .move (.tmp 12), 4, none, true⟩, ⟨some 14, .move (.tmp 0), 25, some (some 13), false⟩, ⟨some 15, .indexAddr 25 (.tmp 14) (.const (.int .i64 0)), 0, some (some 13), false⟩, ⟨some 16, .load 5 (.tmp 15), 5, some (some 13), false⟩, ⟨some 17, .convert 5 3 (.tmp 16), 3, some (some 13), false⟩, ⟨some 18, .call (⟨.value (.func 28), #[.tmp 17], #[3]⟩), 4, some (some 13), false⟩, ⟨some 19, .unOp .not 4 (.tmp 18), 4, some (some 13), false⟩, ⟨some 20, .pick (.tmp 13) (.const (.bool true)) (.tmp 19), 4, none, true⟩])
  (.cond (.tmp 20) (.seq (.region [⟨some 21, .build 23 #[], 23, none, true⟩, ⟨none, .store 23 (.tmp 2) (.tmp 21), 0, none, true⟩, ⟨some 3, .assign (.const (.int .i64 13)), 26, none, true⟩])
  .ret) .skip))
  (.seq (.region [⟨some 22, .move (.tmp 0), 25, none, true⟩, ⟨some 23, .indexAddr 25 (.tmp 22) (.const (.int .i64 0)), 0, none, true⟩, ⟨some 24, .load 5 (.tmp 23), 5, none, true⟩, ⟨some 25, .convert 5 3 (.tmp 24), 3, none, true⟩, ⟨some 26, .build 23 #[(0, .tmp 25)], 23, none, true⟩, ⟨some 4, .alloc 23, 0, none, true⟩, ⟨none, .store 23 (.tmp 4) (.tmp 26), 0, none, true⟩, ⟨some 5, .assign (.const (.int .i64 1)), 3, none, true⟩])
  (.seq (.region [⟨some 27, .fieldAddr 23 (.tmp 4) 0, 0, none, true⟩, ⟨some 28, .load 3 (.tmp 27), 3, none, true⟩, ⟨some 29, .call (⟨.value (.func 15), #[.tmp 28], #[3]⟩), 9, none, true⟩, ⟨some 6, .assign (.tmp 29), 9, none, true⟩])
  (.seq (.seq (.region [⟨some 7, .assign (.const (.int .i64 0)), 3, none, true⟩])
  (.block 0 (.loop [true, false, true, false, true, true, true, true, false, false, false, false, false, false, false, false, false, false, false, false, false, false, false, false, false, false, false, false, false, false, false, false, false, false, false, false, false, false, false, false, false, false, false, false, false, false, false, false, false, false, false, false, false, false, false, false, false, false, false, false, false, false, false] (.seq (.seq (.region [⟨some 30, .move (.tmp 7), 3, none, true⟩, ⟨some 31, .move (.tmp 6), 9, none, true⟩, ⟨some 32, .call (⟨.builtin .len, #[.tmp 31], #[9]⟩), 3, none, true⟩, ⟨some 33, .binOp .lss 3 (.tmp 30) (.tmp 32) 3, 4, none, true⟩])
  (.cond (.tmp 33) .skip (.exit 0)))
  (.seq (.block 1 (.seq (.region [⟨some 37, .move (.tmp 0), 25, none, true⟩, ⟨some 38, .move (.tmp 5), 3, none, true⟩, ⟨some 39, .call (⟨.value (.func 42), #[.tmp 37, .tmp 38], #[25, 3]⟩), 61, none, true⟩, ⟨some 36, .move (.tmp 39), 61, none, true⟩, ⟨some 40, .extract (.tmp 36) 0, 2, none, true⟩, ⟨some 41, .extract (.tmp 36) 1, 3, none, true⟩, ⟨some 8, .assign (.tmp 40), 2, none, true⟩, ⟨some 9, .assign (.tmp 41), 3, none, true⟩])
  (.seq (.seq (.region [⟨some 42, .move (.tmp 9), 3, none, true⟩, ⟨some 43, .binOp .lss 3 (.tmp 42) (.const (.int .i64 0)) 3, 4, none, true⟩])
  (.cond (.tmp 43) (.seq (.region [⟨some 44, .build 23 #[], 23, none, true⟩, ⟨none, .store 23 (.tmp 2) (.tmp 44), 0, none, true⟩, ⟨some 3, .assign (.const (.int .i64 13)), 26, none, true⟩])
  .ret) .skip))
  (.draw (drawOf T.c36 11) [0, 1, 2, 3, 4, 6, 5, 7, 8] [[], [], [], [1, 2], [], [0, 1, 2, 3, 4], [], [0, 1, 2, 3, 4, 5], [0, 1, 2, 3, 4, 5, 6, 7]]))))
  (.region [⟨some 34, .move (.tmp 7), 3, none, true⟩, ⟨some 35, .binOp .add 3 (.tmp 34) (.const (.int .i64 1)) 3, 3, none, true⟩, ⟨some 7, .assign (.tmp 35), 3, none, true⟩]))))))
  (.seq (.seq (.region [⟨some 52, .move (.tmp 5), 3, none, true⟩, ⟨some 53, .move (.tmp 0), 25, none, true⟩, ⟨some 54, .call (⟨.builtin .len, #[.tmp 53], #[25]⟩), 3, none, true⟩, ⟨some 55, .binOp .neq 3 (.tmp 52) (.tmp 54) 3, 4, none, true⟩, ⟨some 56, .move (.tmp 55), 4, none, true⟩, ⟨some 57, .load 23 (.tmp 4), 23, some (some 56), false⟩, ⟨some 58, .call (⟨.value (.func 13), #[.tmp 57], #[23]⟩), 4, some (some 56), false⟩, ⟨some 59, .unOp .not 4 (.tmp 58), 4, some (some 56), false⟩, ⟨some 60, .pick (.tmp 56) (.const (.bool true)) (.tmp 59), 4, none, true⟩])
  (.cond (.tmp 60) (.seq (.region [⟨some 61, .build 23 #[], 23, none, true⟩, ⟨none, .store 23 (.tmp 2) (.tmp 61), 0, none, true⟩, ⟨some 3, .assign (.const (.int .i64 13)), 26, none, true⟩])
  .ret) .skip))
  (.seq (.region [⟨some 62, .load 23 (.tmp 4), 23, none, true⟩, ⟨none, .store 23 (.tmp 2) (.tmp 62), 0, none, true⟩, ⟨some 3, .assign (.const (.int .i64 0)), 26, none, true⟩])
  .ret))))))
noncomputable def f36 : AFn := ⟨63, [.cell 2 23, .tmp 3], b36⟩
/-- novation/event.Take -/
noncomputable def b37 : AC :=
  .seq (.region [⟨some 2, .assign (.const (.int .i64 0)), 2, none, true⟩, ⟨some 3, .assign (.const (.int .i64 0)), 3, none, true⟩])
  (.seq (.region [⟨some 4, .assign (.const (.int .u64 0)), 64, none, true⟩])
  (.seq (.seq (.region [⟨some 5, .assign (.const (.int .i64 0)), 3, none, true⟩])
  (.block 0 (.loop [true, false, false, false, true, true, false, false, false, false, false, false, false, false, false, false, false, false, false, false, false, false, false, false, false, false, false, false, false, false, false, false, false, false, false, false, false, false, false, false, false, false] (.seq (.seq (.region [⟨some 6, .move (.tmp 5), 3, none, true⟩, ⟨some 7, .move (.tmp 0), 25, none, true⟩, ⟨some 8, .call (⟨.builtin .len, #[.tmp 7], #[25]⟩), 3, none, true⟩, ⟨some 9, .binOp .lss 3 (.tmp 6) (.tmp 8) 3, 4, none, true⟩, ⟨some 10, .move (.tmp 9), 4, none, true⟩, ⟨some 11, .move (.tmp 5), 3, some (some 10), true⟩, ⟨some 12, .binOp .lss 3 (.tmp 11) (.const (.int .i64 10)) 3, 4, some (some 10), true⟩, ⟨some 13, .pick (.tmp 10) (.tmp 12) (.const (.bool false)), 4, none, true⟩])
  (.cond (.tmp 13) .skip (.exit 0)))
  (.seq (.block 1 (.seq (.region [⟨some 16, .move (.tmp 4), 64, none, true⟩, ⟨some 17, .move (.tmp 0), 25, none, true⟩, ⟨some 18, .move (.tmp 5), 3, none, true⟩, ⟨some 19, .indexAddr 25 (.tmp 17) (.tmp 18), 0, none, true⟩, ⟨some 20, .load 5 (.tmp 19), 5, none, true⟩, ⟨some 21, .binOp .and 5 (.tmp 20) (.const (.int .u8 127)) 5, 5, none, true⟩, ⟨some 22, .convert 5 64 (.tmp 21), 64, none, true⟩, ⟨some 23, .move (.tmp 5), 3, none, true⟩, ⟨some 24, .binOp .mul 3 (.const (.int .i64 7)) (.tmp 23) 3, 3, none, true⟩, ⟨some 25, .binOp .shl 64 (.tmp 22) (.tmp 24) 3, 64, none, true⟩, ⟨some 26, .binOp .or 64 (.tmp 16) (.tmp 25) 64, 64, none, true⟩, ⟨some 4, .assign (.tmp 26), 64, none, true⟩])
  (.seq (.region [⟨some 27, .move (.tmp 0), 25, none, true⟩, ⟨some 28, .move (.tmp 5), 3, none, true⟩, ⟨some 29, .indexAddr 25 (.tmp 27) (.tmp 28), 0, none, true⟩, ⟨some 30, .load 5 (.tmp 29), 5, none, true⟩, ⟨some 31, .binOp .lss 5 (.tmp 30) (.const (.int .u8 128)) 5, 4, none, true⟩])
  (.cond (.tmp 31) (.seq (.region [⟨some 32, .move (.tmp 4), 64, none, true⟩, ⟨some 33, .binOp .shr 64 (.tmp 32) (.const (.int .u64 1)) 65, 64, none, true⟩, ⟨some 34, .convert 64 2 (.tmp 33), 2, none, true⟩, ⟨some 35, .move (.tmp 4), 64, none, true⟩, ⟨some 36, .binOp .and 64 (.tmp 35) (.const (.int .u64 1)) 64, 64, none, true⟩, ⟨some 37, .convert 64 2 (.tmp 36), 2, none, true⟩, ⟨some 38, .unOp .neg 2 (.tmp 37), 2, none, true⟩, ⟨some 39, .binOp .xor 2 (.tmp 34) (.tmp 38) 2, 2, none, true⟩, ⟨some 40, .move (.tmp 5), 3, none, true⟩, ⟨some 41, .binOp .add 3 (.tmp 40) (.const (.int .i64 1)) 3, 3, none, true⟩, ⟨some 2, .assign (.tmp 39), 2, none, true⟩, ⟨some 3, .assign (.tmp 41), 3, none, true⟩])
  .ret) .skip))))
  (.region [⟨some 14, .move (.tmp 5), 3, none, true⟩, ⟨some 15, .binOp .add 3 (.tmp 14) (.const (.int .i64 1)) 3, 3, none, true⟩, ⟨some 5, .assign (.tmp 15), 3, none, true⟩]))))))
  (.seq (.region [⟨some 2, .assign (.const (.int .i64 0)), 2, none, true⟩, ⟨some 3, .assign (.const (.int .i64 0)), 3, none, true⟩])
  .ret)))
noncomputable def f37 : AFn := ⟨42, [.tmp 2, .tmp 3], b37⟩
/-- bytes.Equal -/
noncomputable def b38 : AC :=
  .seq (.region [⟨some 4, .assign (.const (.bool false)), 4, none, true⟩])
  (.seq (.region [⟨some 5, .move (.tmp 0), 25, none, true⟩, ⟨some 6, .convert 25 9 (.tmp 5), 9, none, true⟩, ⟨some 7, .move (.tmp 1), 25, none, true⟩, ⟨some 8, .convert 25 9 (.tmp 7), 9, none, true⟩, ⟨some 9, .binOp .eql 9 (.tmp 6) (.tmp 8) 9, 4, none, true⟩, ⟨some 4, .assign (.tmp 9), 4, none, true⟩])
  .ret)
noncomputable def f38 : AFn := ⟨10, [.tmp 4], b38⟩
/-- novation/novationref4.quantities -/
noncomputable def b39 : AC :=
  .seq (.region [⟨some 2, .assign (.const (.int .i64 0)), 2, none, true⟩, ⟨some 3, .assign (.const (.int .i64 0)), 2, none, true⟩])
  (.seq (.seq (.region [⟨some 4, .move (.tmp 0), 3, none, true⟩])
  (.block 0 (.seq (.region [⟨some 6, .binOp .eql 3 (.tmp 4) (.const (.int .i64 6)) 3, 4, none, true⟩, ⟨some 5, .assign (.tmp 6), 4, none, true⟩])
  (.cond (.tmp 5) (.seq (.region [⟨some 2, .assign (.const (.int .i64 0)), 2, none, true⟩, ⟨some 3, .assign (.const (.int .i64 1000000000000)), 2, none, true⟩])
  .ret) (.seq (.seq (.region [⟨some 8, .binOp .eql 3 (.tmp 4) (.const (.int .i64 7)) 3, 4, none, true⟩, ⟨some 7, .assign (.tmp 8), 4, none, true⟩])
  (.cond (.tmp 7) .skip (.region [⟨some 9, .binOp .eql 3 (.tmp 4) (.const (.int .i64 17)) 3, 4, none, true⟩, ⟨some 7, .assign (.tmp 9), 4, none, true⟩])))
  (.cond (.tmp 7) (.seq (.region [⟨some 2, .assign (.const (.int .i64 1)), 2, none, true⟩, ⟨some 3, .assign (.const (.int .i64 1000000000)), 2, none, true⟩])
  .ret) (.seq (.region [⟨some 11, .binOp .eql 3 (.tmp 4) (.const (.int .i64 10)) 3, 4, none, true⟩, ⟨some 10, .assign (.tmp 11), 4, none, true⟩])
  (.cond (.tmp 10) (.seq (.region [⟨some 2, .assign (.const (.int .i64 1)), 2, none, true⟩, ⟨some 3, .assign (.const (.int .i64 1000000)), 2, none, true⟩])
  .ret) .skip))))))))
  (.seq (.region [⟨some 2, .assign (.const (.int .i64 1)), 2, none, true⟩, ⟨some 3, .assign (.const (.int .i64 9223372036854775807)), 2, none, true⟩])
  .ret))
noncomputable def f39 : AFn := ⟨12, [.tmp 2, .tmp 3], b39⟩
/-- novation/novationref4.prices -/
noncomputable def b40 : AC :=
  .seq (.region [⟨some 2, .assign (.const (.int .i64 0)), 2, none, true⟩, ⟨some 3, .assign (.const (.int .i64 0)), 2, none, true⟩])
  (.seq (.seq (.region [⟨some 4, .move (.tmp 0), 3, none, true⟩, ⟨some 5, .binOp .eql 3 (.tmp 4) (.const (.int .i64 19)) 3, 4, none, true⟩])
  (.cond (.tmp 5) (.seq (.region [⟨some 2, .assign (.const (.int .i64 (-1152921504606846976))), 2, none, true⟩, ⟨some 3, .assign (.const (.int .i64 1152921504606846976)), 2, none, true⟩])
  .ret) .skip))
  (.seq (.region [⟨some 2, .assign (.const (.int .i64 1)), 2, none, true⟩, ⟨some 3, .assign (.const (.int .i64 1000000000000)), 2, none, true⟩])
  .ret))
noncomputable def f40 : AFn := ⟨6, [.tmp 2, .tmp 3], b40⟩
/-- (*novation/novationseat.Deck).Next -/
noncomputable def b41 : AC :=
  .seq (.region [⟨some 2, .assign (.const (.int .u64 0)), 64, none, true⟩])
  (.seq (.region [⟨some 3, .assign (.const (.int .u64 0)), 64, none, true⟩])
  (.seq (.seq (.draw (drawOf T.c41 2) [0, 1, 2, 3, 4, 5, 6, 7, 8, 9] [[], [0], [0, 1], [0, 1, 2], [], [4], [4, 5], [4, 5, 6], [4, 5, 6, 7], [0, 1, 2, 3, 4, 5, 6, 7, 8]])
  (.cond (.tmp 13) (.draw (drawOf T.c41 3) [0, 1, 2, 3, 4, 5, 6, 7, 8, 9, 10] [[], [0], [0, 1], [0, 1, 2], [], [4], [4, 5], [4, 5, 6], [0, 1, 2, 3, 4, 5, 6, 7], [0, 1, 2, 3, 4, 5, 6, 7, 8], [0, 1, 2, 3, 4, 5, 6, 7, 8, 9]]) .skip))
  (.seq (.region [⟨some 24, .move (.tmp 0), 33, none, true⟩, ⟨some 25, .nilCheck (.tmp 24), 0, none, true⟩, ⟨some 26, .fieldAddr 55 (.tmp 25) 1, 0, none, true⟩, ⟨some 27, .load 3 (.tmp 26), 3, none, true⟩, ⟨some 28, .binOp .add 3 (.tmp 27) (.const (.int .i64 1)) 3, 3, none, true⟩, ⟨some 29, .nilCheck (.tmp 24), 0, none, true⟩, ⟨some 30, .fieldAddr 55 (.tmp 29) 1, 0, none, true⟩, ⟨none, .store 3 (.tmp 30) (.tmp 28), 0, none, true⟩])
  (.seq (.region [⟨some 31, .move (.tmp 3), 64, none, true⟩, ⟨some 2, .assign (.tmp 31), 64, none, true⟩])
  .ret))))
noncomputable def f41 : AFn := ⟨32, [.tmp 2], b41⟩
/-- novation/novationref4.number -/
noncomputable def b42 : AC :=
  .seq (.region [⟨some 4, .assign (.const (.int .i64 0)), 2, none, true⟩, ⟨some 5, .assign (.const (.int .i64 0)), 3, none, true⟩])
  (.seq (.region [⟨some 6, .assign (.const (.int .u64 0)), 64, none, true⟩])
  (.seq (.seq (.region [⟨some 7, .assign (.const (.int .i64 0)), 3, none, true⟩])
  (.block 0 (.loop [true, true, false, false, false, false, true, true, false, false, false, false, false, false, false, false, false, false, false, false, false, false, false, false, false, false, false, false, false, false, false, false, false, false, false, false, false, false, false, false, false, false, false, false, false, false, false, false, false, false, false, false, false, false, false, false, false, false, false, false, false, false, false, false, false, false, false, false, false, false] (.seq (.seq (.region [⟨some 9, .move (.tmp 7), 3, none, true⟩, ⟨some 10, .binOp .lss 3 (.tmp 9) (.const (.int .i64 10)) 3, 4, none, true⟩, ⟨some 11, .move (.tmp 10), 4, none, true⟩, ⟨some 12, .move (.tmp 1), 3, some (some 11), true⟩, ⟨some 13, .move (.tmp 7), 3, some (some 11), true⟩, ⟨some 14, .binOp .add 3 (.tmp 12) (.tmp 13) 3, 3, some (some 11), true⟩, ⟨some 15, .move (.tmp 0), 25, some (some 11), true⟩, ⟨some 16, .call (⟨.builtin .len, #[.tmp 15], #[25]⟩), 3, some (some 11), true⟩, ⟨some 17, .binOp .lss 3 (.tmp 14) (.tmp 16) 3, 4, some (some 11), true⟩, ⟨some 18, .pick (.tmp 11) (.tmp 17) (.const (.bool false)), 4, none, true⟩])
  (.cond (.tmp 18) .skip (.exit 0)))
  (.seq (.block 1 (.seq (.region [⟨some 21, .move (.tmp 0), 25, none, true⟩, ⟨some 22, .move (.tmp 1), 3, none, true⟩, ⟨some 23, .move (.tmp 7), 3, none, true⟩, ⟨some 24, .binOp .add 3 (.tmp 22) (.tmp 23) 3, 3, none, true⟩, ⟨some 25, .indexAddr 25 (.tmp 21) (.tmp 24), 0, none, true⟩, ⟨some 26, .load 5 (.tmp 25), 5, none, true⟩, ⟨some 8, .assign (.tmp 26), 5, none, true⟩])
  (.seq (.seq (.region [⟨some 27, .move (.tmp 7), 3, none, true⟩, ⟨some 28, .binOp .eql 3 (.tmp 27) (.const (.int .i64 9)) 3, 4, none, true⟩, ⟨some 29, .move (.tmp 28), 4, none, true⟩, ⟨some 30, .move (.tmp 8), 5, some (some 29), true⟩, ⟨some 31, .binOp .gtr 5 (.tmp 30) (.const (.int .u8 1)) 5, 4, some (some 29), true⟩, ⟨some 32, .pick (.tmp 29) (.tmp 31) (.const (.bool false)), 4, none, true⟩, ⟨some 33, .move (.tmp 32), 4, none, true⟩, ⟨some 34, .move (.tmp 8), 5, some (some 33), false⟩, ⟨some 35, .binOp .eql 5 (.tmp 34) (.const (.int .u8 0)) 5, 4, some (some 33), false⟩, ⟨some 36, .move (.tmp 35), 4, some (some 33), false⟩, ⟨some 37, .move (.tmp 7), 3, some (some 36), true⟩, ⟨some 38, .binOp .gtr 3 (.tmp 37) (.const (.int .i64 0)) 3, 4, some (some 36), true⟩, ⟨some 39, .pick (.tmp 36) (.tmp 38) (.const (.bool false)), 4, some (some 33), false⟩, ⟨some 40, .pick (.tmp 33) (.const (.bool true)) (.tmp 39), 4, none, true⟩])
  (.cond (.tmp 40) (.seq (.region [⟨some 4, .assign (.const (.int .i64 0)), 2, none, true⟩, ⟨some 5, .assign (.const (.int .i64 (-1))), 3, none, true⟩])
  .ret) .skip))
  (.seq (.region [⟨some 41, .move (.tmp 6), 64, none, true⟩, ⟨some 42, .move (.tmp 8), 5, none, true⟩, ⟨some 43, .binOp .and 5 (.tmp 42) (.const (.int .u8 127)) 5, 5, none, true⟩, ⟨some 44, .convert 5 64 (.tmp 43), 64, none, true⟩, ⟨some 45, .move (.tmp 7), 3, none, true⟩, ⟨some 46, .binOp .mul 3 (.const (.int .i64 7)) (.tmp 45) 3, 3, none, true⟩, ⟨some 47, .binOp .shl 64 (.tmp 44) (.tmp 46) 3, 64, none, true⟩, ⟨some 48, .binOp .or 64 (.tmp 41) (.tmp 47) 64, 64, none, true⟩, ⟨some 6, .assign (.tmp 48), 64, none, true⟩])
  (.seq (.region [⟨some 49, .move (.tmp 8), 5, none, true⟩, ⟨some 50, .binOp .lss 5 (.tmp 49) (.const (.int .u8 128)) 5, 4, none, true⟩])
  (.cond (.tmp 50) (.seq (.seq (.region [⟨some 51, .move (.tmp 6), 64, none, true⟩, ⟨some 52, .binOp .and 64 (.tmp 51) (.const (.int .u64 1)) 64, 64, none, true⟩, ⟨some 53, .binOp .eql 64 (.tmp 52) (.const (.int .u64 1)) 64, 4, none, true⟩])
  (.cond (.tmp 53) (.seq (.region [⟨some 54, .move (.tmp 6), 64, none, true⟩, ⟨some 55, .binOp .shr 64 (.tmp 54) (.const (.int .u64 1)) 65, 64, none, true⟩, ⟨some 56, .convert 64 2 (.tmp 55), 2, none, true⟩, ⟨some 57, .unOp .neg 2 (.tmp 56), 2, none, true⟩, ⟨some 58, .binOp .sub 2 (.tmp 57) (.const (.int .i64 1)) 2, 2, none, true⟩, ⟨some 59, .move (.tmp 1), 3, none, true⟩, ⟨some 60, .move (.tmp 7), 3, none, true⟩, ⟨some 61, .binOp .add 3 (.tmp 59) (.tmp 60) 3, 3, none, true⟩, ⟨some 62, .binOp .add 3 (.tmp 61) (.const (.int .i64 1)) 3, 3, none, true⟩, ⟨some 4, .assign (.tmp 58), 2, none, true⟩, ⟨some 5, .assign (.tmp 62), 3, none, true⟩])
  .ret) .skip))
  (.seq (.region [⟨some 63, .move (.tmp 6), 64, none, true⟩, ⟨some 64, .binOp .shr 64 (.tmp 63) (.const (.int .u64 1)) 65, 64, none, true⟩, ⟨some 65, .convert 64 2 (.tmp 64), 2, none, true⟩, ⟨some 66, .move (.tmp 1), 3, none, true⟩, ⟨some 67, .move (.tmp 7), 3, none, true⟩, ⟨some 68, .binOp .add 3 (.tmp 66) (.tmp 67) 3, 3, none, true⟩, ⟨some 69, .binOp .add 3 (.tmp 68) (.const (.int .i64 1)) 3, 3, none, true⟩, ⟨some 4, .assign (.tmp 65), 2, none, true⟩, ⟨some 5, .assign (.tmp 69), 3, none, true⟩])
  .ret)) .skip))))))
  (.region [⟨some 19, .move (.tmp 7), 3, none, true⟩, ⟨some 20, .binOp .add 3 (.tmp 19) (.const (.int .i64 1)) 3, 3, none, true⟩, ⟨some 7, .assign (.tmp 20), 3, none, true⟩]))))))
  (.seq (.region [⟨some 4, .assign (.const (.int .i64 0)), 2, none, true⟩, ⟨some 5, .assign (.const (.int .i64 (-1))), 3, none, true⟩])
  .ret)))
noncomputable def f42 : AFn := ⟨70, [.tmp 4, .tmp 5], b42⟩
def tys : List (Nat × TI) := [(1, t1), (2, t2), (3, t3), (4, t4), (5, t5), (6, t6), (7, t7), (9, t9), (23, t23), (25, t25), (26, t26), (32, t32), (33, t33), (36, t36), (38, t38), (55, t55), (60, t60), (64, t64)]
noncomputable def fns : List (Nat × AFn) := [(3, f3), (4, f4), (5, f5), (6, f6), (7, f7), (8, f8), (9, f9), (10, f10), (11, f11), (12, f12), (13, f13), (14, f14), (15, f15), (16, f16), (17, f17), (18, f18), (19, f19), (20, f20), (21, f21), (22, f22), (23, f23), (24, f24), (25, f25), (26, f26), (27, f27), (28, f28), (29, f29), (30, f30), (31, f31), (32, f32), (33, f33), (34, f34), (35, f35), (36, f36), (37, f37), (38, f38), (39, f39), (40, f40), (41, f41), (42, f42)]
noncomputable def ap0 : AP := { ty := fun t => tys.lookup t, fn := fun f => fns.lookup f, prim := fun _ => none }
noncomputable def ap : AP := { ap0 with prim := knownPrim 9 }
theorem ty1 : ap.ty 1 = some t1 := by kernel_rfl
theorem ty2 : ap.ty 2 = some t2 := by kernel_rfl
theorem ty3 : ap.ty 3 = some t3 := by kernel_rfl
theorem ty4 : ap.ty 4 = some t4 := by kernel_rfl
theorem ty5 : ap.ty 5 = some t5 := by kernel_rfl
theorem ty6 : ap.ty 6 = some t6 := by kernel_rfl
theorem ty7 : ap.ty 7 = some t7 := by kernel_rfl
theorem ty9 : ap.ty 9 = some t9 := by kernel_rfl
theorem ty23 : ap.ty 23 = some t23 := by kernel_rfl
theorem ty25 : ap.ty 25 = some t25 := by kernel_rfl
theorem ty26 : ap.ty 26 = some t26 := by kernel_rfl
theorem ty32 : ap.ty 32 = some t32 := by kernel_rfl
theorem ty33 : ap.ty 33 = some t33 := by kernel_rfl
theorem ty36 : ap.ty 36 = some t36 := by kernel_rfl
theorem ty38 : ap.ty 38 = some t38 := by kernel_rfl
theorem ty55 : ap.ty 55 = some t55 := by kernel_rfl
theorem ty60 : ap.ty 60 = some t60 := by kernel_rfl
theorem ty64 : ap.ty 64 = some t64 := by kernel_rfl
theorem fn3 : ap.fn 3 = some f3 := by kernel_rfl
theorem fn4 : ap.fn 4 = some f4 := by kernel_rfl
theorem fn5 : ap.fn 5 = some f5 := by kernel_rfl
theorem fn6 : ap.fn 6 = some f6 := by kernel_rfl
theorem fn7 : ap.fn 7 = some f7 := by kernel_rfl
theorem fn8 : ap.fn 8 = some f8 := by kernel_rfl
theorem fn9 : ap.fn 9 = some f9 := by kernel_rfl
theorem fn10 : ap.fn 10 = some f10 := by kernel_rfl
theorem fn11 : ap.fn 11 = some f11 := by kernel_rfl
theorem fn12 : ap.fn 12 = some f12 := by kernel_rfl
theorem fn13 : ap.fn 13 = some f13 := by kernel_rfl
theorem fn14 : ap.fn 14 = some f14 := by kernel_rfl
theorem fn15 : ap.fn 15 = some f15 := by kernel_rfl
theorem fn16 : ap.fn 16 = some f16 := by kernel_rfl
theorem fn17 : ap.fn 17 = some f17 := by kernel_rfl
theorem fn18 : ap.fn 18 = some f18 := by kernel_rfl
theorem fn19 : ap.fn 19 = some f19 := by kernel_rfl
theorem fn20 : ap.fn 20 = some f20 := by kernel_rfl
theorem fn21 : ap.fn 21 = some f21 := by kernel_rfl
theorem fn22 : ap.fn 22 = some f22 := by kernel_rfl
theorem fn23 : ap.fn 23 = some f23 := by kernel_rfl
theorem fn24 : ap.fn 24 = some f24 := by kernel_rfl
theorem fn25 : ap.fn 25 = some f25 := by kernel_rfl
theorem fn26 : ap.fn 26 = some f26 := by kernel_rfl
theorem fn27 : ap.fn 27 = some f27 := by kernel_rfl
theorem fn28 : ap.fn 28 = some f28 := by kernel_rfl
theorem fn29 : ap.fn 29 = some f29 := by kernel_rfl
theorem fn30 : ap.fn 30 = some f30 := by kernel_rfl
theorem fn31 : ap.fn 31 = some f31 := by kernel_rfl
theorem fn32 : ap.fn 32 = some f32 := by kernel_rfl
theorem fn33 : ap.fn 33 = some f33 := by kernel_rfl
theorem fn34 : ap.fn 34 = some f34 := by kernel_rfl
theorem fn35 : ap.fn 35 = some f35 := by kernel_rfl
theorem fn36 : ap.fn 36 = some f36 := by kernel_rfl
theorem fn37 : ap.fn 37 = some f37 := by kernel_rfl
theorem fn38 : ap.fn 38 = some f38 := by kernel_rfl
theorem fn39 : ap.fn 39 = some f39 := by kernel_rfl
theorem fn40 : ap.fn 40 = some f40 := by kernel_rfl
theorem fn41 : ap.fn 41 = some f41 := by kernel_rfl
theorem fn42 : ap.fn 42 = some f42 := by kernel_rfl
theorem types : ∀ x ∈ tys, tiOf Try.prog x.1 = some x.2 := by
  simp only [tys, List.forall_mem_cons]
  exact ⟨by kernel_rfl, by kernel_rfl, by kernel_rfl, by kernel_rfl, by kernel_rfl, by kernel_rfl, by kernel_rfl, by kernel_rfl, by kernel_rfl, by kernel_rfl, by kernel_rfl, by kernel_rfl, by kernel_rfl, by kernel_rfl, by kernel_rfl, by kernel_rfl, by kernel_rfl, by kernel_rfl, fun _ h => by cases h⟩
theorem funcs : ∀ x ∈ fns, FnOk Try.prog x.1 x.2 := by
  simp only [fns, List.forall_mem_cons]
  exact ⟨fnOk_of Try.func3 rfl (by decide +kernel) (by kernel_rfl) (by kernel_rfl) (by kernel_rfl), fnOk_of Try.func4 rfl (by decide +kernel) (by kernel_rfl) (by kernel_rfl) (by kernel_rfl), fnOk_of Try.func5 rfl (by decide +kernel) (by kernel_rfl) (by kernel_rfl) (by kernel_rfl), fnOk_of Try.func6 rfl (by decide +kernel) (by kernel_rfl) (by kernel_rfl) (by kernel_rfl), fnOk_of Try.func7 rfl (by decide +kernel) (by kernel_rfl) (by kernel_rfl) (by kernel_rfl), fnOk_of Try.func8 rfl (by decide +kernel) (by kernel_rfl) (by kernel_rfl) (by kernel_rfl), fnOk_of Try.func9 rfl (by decide +kernel) (by kernel_rfl) (by kernel_rfl) (by kernel_rfl), fnOk_of Try.func10 rfl (by decide +kernel) (by kernel_rfl) (by kernel_rfl) (by kernel_rfl), fnOk_of Try.func11 rfl (by decide +kernel) (by kernel_rfl) (by kernel_rfl) (by kernel_rfl), fnOk_of Try.func12 rfl (by decide +kernel) (by kernel_rfl) (by kernel_rfl) (by kernel_rfl), fnOk_of Try.func13 rfl (by decide +kernel) (by kernel_rfl) (by kernel_rfl) (by kernel_rfl), fnOk_of Try.func14 rfl (by decide +kernel) (by kernel_rfl) (by kernel_rfl) (by kernel_rfl), fnOk_of Try.func15 rfl (by decide +kernel) (by kernel_rfl) (by kernel_rfl) (by kernel_rfl), fnOk_of Try.func16 rfl (by decide +kernel) (by kernel_rfl) (by kernel_rfl) (by kernel_rfl), fnOk_of Try.func17 rfl (by decide +kernel) (by kernel_rfl) (by kernel_rfl) (by kernel_rfl), fnOk_of Try.func18 rfl (by decide +kernel) (by kernel_rfl) (by kernel_rfl) (by kernel_rfl), fnOk_of Try.func19 rfl (by decide +kernel) (by kernel_rfl) (by kernel_rfl) (by kernel_rfl), fnOk_of Try.func20 rfl (by decide +kernel) (by kernel_rfl) (by kernel_rfl) (by kernel_rfl), fnOk_of Try.func21 rfl (by decide +kernel) (by kernel_rfl) (by kernel_rfl) (by kernel_rfl), fnOk_of Try.func22 rfl (by decide +kernel) (by kernel_rfl) (by kernel_rfl) (by kernel_rfl), fnOk_of Try.func23 rfl (by decide +kernel) (by kernel_rfl) (by kernel_rfl) (by kernel_rfl), fnOk_of Try.func24 rfl (by decide +kernel) (by kernel_rfl) (by kernel_rfl) (by kernel_rfl), fnOk_of Try.func25 rfl (by decide +kernel) (by kernel_rfl) (by kernel_rfl) (by kernel_rfl), fnOk_of Try.func26 rfl (by decide +kernel) (by kernel_rfl) (by kernel_rfl) (by kernel_rfl), fnOk_of Try.func27 rfl (by decide +kernel) (by kernel_rfl) (by kernel_rfl) (by kernel_rfl), fnOk_of Try.func28 rfl (by decide +kernel) (by kernel_rfl) (by kernel_rfl) (by kernel_rfl), fnOk_of Try.func29 rfl (by decide +kernel) (by kernel_rfl) (by kernel_rfl) (by kernel_rfl), fnOk_of Try.func30 rfl (by decide +kernel) (by kernel_rfl) (by kernel_rfl) (by kernel_rfl), fnOk_of Try.func31 rfl (by decide +kernel) (by kernel_rfl) (by kernel_rfl) (by kernel_rfl), fnOk_of Try.func32 rfl (by decide +kernel) (by kernel_rfl) (by kernel_rfl) (by kernel_rfl), fnOk_of Try.func33 rfl (by decide +kernel) (by kernel_rfl) (by kernel_rfl) (by kernel_rfl), fnOk_of Try.func34 rfl (by decide +kernel) (by kernel_rfl) (by kernel_rfl) (by kernel_rfl), fnOk_of Try.func35 rfl (by decide +kernel) (by kernel_rfl) (by kernel_rfl) (by kernel_rfl), fnOk_of Try.func36 rfl (by decide +kernel) (by kernel_rfl) (by kernel_rfl) (by kernel_rfl), fnOk_of Try.func37 rfl (by decide +kernel) (by kernel_rfl) (by kernel_rfl) (by kernel_rfl), fnOk_of Try.func38 rfl (by decide +kernel) (by kernel_rfl) (by kernel_rfl) (by kernel_rfl), fnOk_of Try.func39 rfl (by decide +kernel) (by kernel_rfl) (by kernel_rfl) (by kernel_rfl), fnOk_of Try.func40 rfl (by decide +kernel) (by kernel_rfl) (by kernel_rfl) (by kernel_rfl), fnOk_of Try.func41 rfl (by decide +kernel) (by kernel_rfl) (by kernel_rfl) (by kernel_rfl), fnOk_of Try.func42 rfl (by decide +kernel) (by kernel_rfl) (by kernel_rfl) (by kernel_rfl), fun _ h => by cases h⟩
theorem agree0 : Agree Try.prog ap0 := agree_of (by kernel_rfl) types funcs
attribute [simp] ty1 t1 ty2 t2 ty3 t3 ty4 t4 ty5 t5 ty6 t6 ty7 t7 ty9 t9 ty23 t23 ty25 t25 ty26 t26 ty32 t32 ty33 t33 ty36 t36 ty38 t38 ty55 t55 ty60 t60 ty64 t64
end Go.Proofs.Ytdhedlkfpdakpaa.T
