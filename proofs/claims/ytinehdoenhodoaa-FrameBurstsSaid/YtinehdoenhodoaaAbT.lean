import Derived.Test.YtinehdoenhodoaaProg
import Derived.Test.YtinehdoenhodoaaAb23
import Derived.KernelRfl
/-! The tables of the abstract reading. Written by wip/ab/abgen.py (an own program) out of the loaded program. -/
set_option linter.unusedVariables false
set_option maxRecDepth 100000
namespace Go.Proofs.Ytinehdoenhodoaa.T
open Go Go.Ab
noncomputable def c3 : Code := bodyOf Try.f3
noncomputable def c4 : Code := bodyOf Try.f4
noncomputable def c5 : Code := bodyOf Try.f5
noncomputable def c6 : Code := bodyOf Try.f6
noncomputable def c7 : Code := bodyOf Try.f7
noncomputable def c8 : Code := bodyOf Try.f8
noncomputable def c9 : Code := bodyOf Try.f9
noncomputable def c10 : Code := bodyOf Try.f10
noncomputable def c11 : Code := bodyOf Try.f11
noncomputable def c12 : Code := bodyOf Try.f12
noncomputable def c13 : Code := bodyOf Try.f13
noncomputable def c14 : Code := bodyOf Try.f14
noncomputable def c15 : Code := bodyOf Try.f15
noncomputable def c16 : Code := bodyOf Try.f16
noncomputable def c17 : Code := bodyOf Try.f17
noncomputable def c18 : Code := bodyOf Try.f18
noncomputable def c19 : Code := bodyOf Try.f19
noncomputable def c20 : Code := bodyOf Try.f20
noncomputable def c21 : Code := bodyOf Try.f21
noncomputable def c22 : Code := bodyOf Try.f22
noncomputable def c23 : Code := bodyOf Try.f23
def t1 : TI := ⟨1, 8, [.nilFunc], .func⟩
def t2 : TI := ⟨1, 8, [.int .i64 0], .int .i64⟩
def t3 : TI := ⟨1, 8, [.int .i64 0], .int .i64⟩
def t4 : TI := ⟨1, 1, [.bool false], .bool⟩
def t5 : TI := ⟨1, 1, [.int .u8 0], .int .u8⟩
def t9 : TI := ⟨1, 16, [.str ⟨#[]⟩], .string⟩
def t22 : TI := ⟨1, 24, [.slice none 0 (some 0) 0], .slice 5⟩
def t24 : TI := ⟨1, 8, [.int .i64 0], .int .i64⟩
def t27 : TI := ⟨1, 4, [.int .u32 0], .int .u32⟩
def t30 : TI := ⟨1, 24, [.slice none 0 (some 0) 0], .slice 22⟩
def t38 : TI := ⟨1, 8, [.nilFunc], .func⟩
def t41 : TI := ⟨1, 2, [.int .u16 0], .int .u16⟩
def t48 : TI := ⟨1, 24, [.slice none 0 (some 0) 0], .slice 3⟩
/-- novation/novationlaw4.FramePuts -/
noncomputable def b3 : AC :=
  .seq (.region [⟨some 4, .assign (.const (.bool false)), 4, none, true⟩])
  (.seq (.seq (.region [⟨some 14, .call (⟨.value (.func 8), #[], #[]⟩), 4, none, true⟩, ⟨some 15, .unOp .not 4 (.tmp 14), 4, none, true⟩])
  (.cond (.tmp 15) (.seq (.region [⟨some 4, .assign (.const (.bool false)), 4, none, true⟩])
  .ret) .skip))
  (.seq (.seq (.region [⟨some 16, .move (.tmp 0), 22, none, true⟩, ⟨some 17, .call (⟨.builtin .len, #[.tmp 16], #[22]⟩), 3, none, true⟩, ⟨some 18, .binOp .gtr 3 (.tmp 17) (.const (.int .i64 300)) 3, 4, none, true⟩])
  (.cond (.tmp 18) (.seq (.region [⟨some 4, .assign (.const (.bool true)), 4, none, true⟩])
  .ret) .skip))
  (.seq (.region [⟨some 19, .buildSlice 22 0 #[], 22, none, true⟩, ⟨some 20, .move (.tmp 0), 22, none, true⟩, ⟨some 21, .call (⟨.builtin .append, #[.tmp 19, .tmp 20], #[22, 22]⟩), 22, none, true⟩, ⟨some 22, .move (.tmp 0), 22, none, true⟩, ⟨some 23, .call (⟨.builtin .len, #[.tmp 22], #[22]⟩), 3, none, true⟩, ⟨some 24, .binOp .sub 3 (.const (.int .i64 398)) (.tmp 23) 3, 3, none, true⟩, ⟨some 25, .move (.tmp 1), 5, none, true⟩, ⟨some 26, .binOp .rem 5 (.tmp 25) (.const (.int .u8 5)) 5, 5, none, true⟩, ⟨some 27, .convert 5 3 (.tmp 26), 3, none, true⟩, ⟨some 28, .binOp .add 3 (.tmp 24) (.tmp 27) 3, 3, none, true⟩, ⟨some 29, .call (⟨.builtin .append, #[.tmp 21, .tmp 28], #[22, 3]⟩), 22, none, true⟩, ⟨some 5, .assign (.tmp 29), 22, none, true⟩])
  (.seq (.region [⟨some 31, .move (.tmp 0), 22, none, true⟩, ⟨some 32, .call (⟨.value (.func 9), #[.tmp 31], #[22]⟩), 25, none, true⟩, ⟨some 30, .move (.tmp 32), 25, none, true⟩, ⟨some 33, .extract (.tmp 30) 0, 22, none, true⟩, ⟨some 34, .extract (.tmp 30) 1, 24, none, true⟩, ⟨some 6, .assign (.tmp 33), 22, none, true⟩, ⟨some 7, .assign (.tmp 34), 24, none, true⟩])
  (.seq (.region [⟨some 36, .move (.tmp 0), 22, none, true⟩, ⟨some 37, .call (⟨.value (.func 10), #[.tmp 36], #[22]⟩), 25, none, true⟩, ⟨some 35, .move (.tmp 37), 25, none, true⟩, ⟨some 38, .extract (.tmp 35) 0, 22, none, true⟩, ⟨some 39, .extract (.tmp 35) 1, 24, none, true⟩, ⟨some 8, .assign (.tmp 38), 22, none, true⟩, ⟨some 9, .assign (.tmp 39), 24, none, true⟩])
  (.seq (.region [⟨some 41, .move (.tmp 5), 22, none, true⟩, ⟨some 42, .call (⟨.value (.func 9), #[.tmp 41], #[22]⟩), 25, none, true⟩, ⟨some 40, .move (.tmp 42), 25, none, true⟩, ⟨some 43, .extract (.tmp 40) 0, 22, none, true⟩, ⟨some 44, .extract (.tmp 40) 1, 24, none, true⟩, ⟨some 10, .assign (.tmp 43), 22, none, true⟩, ⟨some 11, .assign (.tmp 44), 24, none, true⟩])
  (.seq (.region [⟨some 46, .move (.tmp 5), 22, none, true⟩, ⟨some 47, .call (⟨.value (.func 10), #[.tmp 46], #[22]⟩), 25, none, true⟩, ⟨some 45, .move (.tmp 47), 25, none, true⟩, ⟨some 48, .extract (.tmp 45) 0, 22, none, true⟩, ⟨some 49, .extract (.tmp 45) 1, 24, none, true⟩, ⟨some 12, .assign (.tmp 48), 22, none, true⟩, ⟨some 13, .assign (.tmp 49), 24, none, true⟩])
  (.seq (.region [⟨some 50, .move (.tmp 7), 24, none, true⟩, ⟨some 51, .move (.tmp 9), 24, none, true⟩, ⟨some 52, .binOp .eql 24 (.tmp 50) (.tmp 51) 24, 4, none, true⟩, ⟨some 53, .move (.tmp 52), 4, none, true⟩, ⟨some 54, .move (.tmp 6), 22, some (some 53), true⟩, ⟨some 55, .convert 22 9 (.tmp 54), 9, some (some 53), true⟩, ⟨some 56, .move (.tmp 8), 22, some (some 53), true⟩, ⟨some 57, .convert 22 9 (.tmp 56), 9, some (some 53), true⟩, ⟨some 58, .binOp .eql 9 (.tmp 55) (.tmp 57) 9, 4, some (some 53), true⟩, ⟨some 59, .pick (.tmp 53) (.tmp 58) (.const (.bool false)), 4, none, true⟩, ⟨some 60, .move (.tmp 59), 4, none, true⟩, ⟨some 61, .move (.tmp 11), 24, some (some 60), true⟩, ⟨some 62, .move (.tmp 13), 24, some (some 60), true⟩, ⟨some 63, .binOp .eql 24 (.tmp 61) (.tmp 62) 24, 4, some (some 60), true⟩, ⟨some 64, .pick (.tmp 60) (.tmp 63) (.const (.bool false)), 4, none, true⟩, ⟨some 65, .move (.tmp 64), 4, none, true⟩, ⟨some 66, .move (.tmp 10), 22, some (some 65), true⟩, ⟨some 67, .convert 22 9 (.tmp 66), 9, some (some 65), true⟩, ⟨some 68, .move (.tmp 12), 22, some (some 65), true⟩, ⟨some 69, .convert 22 9 (.tmp 68), 9, some (some 65), true⟩, ⟨some 70, .binOp .eql 9 (.tmp 67) (.tmp 69) 9, 4, some (some 65), true⟩, ⟨some 71, .pick (.tmp 65) (.tmp 70) (.const (.bool false)), 4, none, true⟩, ⟨some 72, .move (.tmp 71), 4, none, true⟩, ⟨some 73, .move (.tmp 0), 22, some (some 72), true⟩, ⟨some 74, .call (⟨.value (.func 11), #[.tmp 73], #[22]⟩), 27, some (some 72), true⟩, ⟨some 75, .move (.tmp 0), 22, some (some 72), true⟩, ⟨some 76, .call (⟨.value (.func 12), #[.tmp 75], #[22]⟩), 27, some (some 72), true⟩, ⟨some 77, .binOp .eql 27 (.tmp 74) (.tmp 76) 27, 4, some (some 72), true⟩, ⟨some 78, .pick (.tmp 72) (.tmp 77) (.const (.bool false)), 4, none, true⟩, ⟨some 4, .assign (.tmp 78), 4, none, true⟩])
  .ret))))))))
noncomputable def f3 : AFn := ⟨79, [.tmp 4], b3⟩
/-- novation/novationlaw4.FrameScans -/
noncomputable def b4 : AC :=
  .seq (.region [⟨some 4, .assign (.const (.bool false)), 4, none, true⟩])
  (.seq (.seq (.region [⟨some 7, .call (⟨.value (.func 8), #[], #[]⟩), 4, none, true⟩, ⟨some 8, .unOp .not 4 (.tmp 7), 4, none, true⟩])
  (.cond (.tmp 8) (.seq (.region [⟨some 4, .assign (.const (.bool false)), 4, none, true⟩])
  .ret) .skip))
  (.seq (.seq (.region [⟨some 9, .move (.tmp 0), 22, none, true⟩, ⟨some 10, .call (⟨.builtin .len, #[.tmp 9], #[22]⟩), 3, none, true⟩, ⟨some 11, .binOp .gtr 3 (.tmp 10) (.const (.int .i64 1000)) 3, 4, none, true⟩, ⟨some 12, .move (.tmp 11), 4, none, true⟩, ⟨some 13, .move (.tmp 1), 30, some (some 12), false⟩, ⟨some 14, .call (⟨.value (.func 13), #[.tmp 13], #[30]⟩), 4, some (some 12), false⟩, ⟨some 15, .unOp .not 4 (.tmp 14), 4, some (some 12), false⟩, ⟨some 16, .pick (.tmp 12) (.const (.bool true)) (.tmp 15), 4, none, true⟩])
  (.cond (.tmp 16) (.seq (.region [⟨some 4, .assign (.const (.bool true)), 4, none, true⟩])
  .ret) .skip))
  (.seq (.region [⟨some 18, .move (.tmp 1), 30, none, true⟩, ⟨some 19, .call (⟨.value (.func 14), #[.tmp 18], #[30]⟩), 32, none, true⟩, ⟨some 17, .move (.tmp 19), 32, none, true⟩, ⟨some 20, .extract (.tmp 17) 0, 22, none, true⟩, ⟨some 21, .extract (.tmp 17) 1, 4, none, true⟩, ⟨some 5, .assign (.tmp 20), 22, none, true⟩, ⟨some 6, .assign (.tmp 21), 4, none, true⟩])
  (.seq (.region [⟨some 22, .move (.tmp 6), 4, none, true⟩, ⟨some 23, .move (.tmp 22), 4, none, true⟩, ⟨some 24, .move (.tmp 0), 22, some (some 23), true⟩, ⟨some 25, .call (⟨.value (.func 15), #[.tmp 24], #[22]⟩), 4, some (some 23), true⟩, ⟨some 26, .pick (.tmp 23) (.tmp 25) (.const (.bool false)), 4, none, true⟩, ⟨some 27, .move (.tmp 26), 4, none, true⟩, ⟨some 28, .buildSlice 22 0 #[], 22, some (some 27), true⟩, ⟨some 29, .move (.tmp 5), 22, some (some 27), true⟩, ⟨some 30, .call (⟨.builtin .append, #[.tmp 28, .tmp 29], #[22, 22]⟩), 22, some (some 27), true⟩, ⟨some 31, .move (.tmp 0), 22, some (some 27), true⟩, ⟨some 32, .call (⟨.builtin .append, #[.tmp 30, .tmp 31], #[22, 22]⟩), 22, some (some 27), true⟩, ⟨some 33, .call (⟨.value (.func 15), #[.tmp 32], #[22]⟩), 4, some (some 27), true⟩, ⟨some 34, .pick (.tmp 27) (.tmp 33) (.const (.bool false)), 4, none, true⟩, ⟨some 4, .assign (.tmp 34), 4, none, true⟩])
  .ret))))
noncomputable def f4 : AFn := ⟨35, [.tmp 4], b4⟩
noncomputable def as5_0 : AC :=
  .seq (.region [⟨some 10, .assign (.tmp 38), 3, none, true⟩])
  (.region [⟨some 11, .assign (.tmp 39), 22, none, true⟩])
noncomputable def bd5_0 : AC :=
  .block 1 (.seq (.seq (.region [⟨some 40, .load 3 (.tmp 8), 3, none, true⟩, ⟨some 41, .load 3 (.tmp 7), 3, none, true⟩, ⟨some 42, .binOp .eql 3 (.tmp 40) (.tmp 41) 3, 4, none, true⟩])
  (.cond (.tmp 42) (.exit 0) .skip))
  (.seq (.seq (.draw (drawOf T.c5 13) [0, 1, 2, 3, 4, 5, 6, 7, 8, 9, 10, 11, 12] [[], [], [0, 1], [0, 1, 2], [0, 1, 2, 3], [0, 1, 2, 3, 4], [0, 1, 2, 3], [0, 1, 2, 3], [0, 1, 2, 3, 6, 7], [0, 1, 2, 3, 6, 7, 8], [0, 1, 2, 3, 6, 7, 8, 9], [0, 1, 2, 3, 4, 5, 6, 7, 8, 9, 10], [0, 1, 2, 3, 4, 5, 6, 7, 8, 9, 10, 11]])
  (.cond (.tmp 55) (.seq (.region [⟨none, .store 4 (.tmp 4) (.const (.bool false)), 0, none, true⟩])
  .ret) .skip))
  (.seq (.region [⟨some 56, .load 3 (.tmp 9), 3, none, true⟩, ⟨some 57, .move (.tmp 11), 22, none, true⟩, ⟨some 58, .call (⟨.builtin .len, #[.tmp 57], #[22]⟩), 3, none, true⟩, ⟨some 59, .binOp .add 3 (.tmp 58) (.const (.int .i64 6)) 3, 3, none, true⟩, ⟨some 60, .binOp .add 3 (.tmp 56) (.tmp 59) 3, 3, none, true⟩, ⟨none, .store 3 (.tmp 9) (.tmp 60), 0, none, true⟩])
  (.region [⟨some 61, .load 3 (.tmp 8), 3, none, true⟩, ⟨some 62, .binOp .add 3 (.tmp 61) (.const (.int .i64 1)) 3, 3, none, true⟩, ⟨none, .store 3 (.tmp 8) (.tmp 62), 0, none, true⟩]))))
/-- novation/novationlaw4.FrameBack -/
noncomputable def b5 : AC :=
  .seq (.region [⟨some 2, .box 30 (.tmp 0), 0, none, true⟩, ⟨some 4, .alloc 4, 0, none, true⟩])
  (.seq (.seq (.region [⟨some 12, .call (⟨.value (.func 8), #[], #[]⟩), 4, none, true⟩, ⟨some 13, .unOp .not 4 (.tmp 12), 4, none, true⟩])
  (.cond (.tmp 13) (.seq (.region [⟨none, .store 4 (.tmp 4) (.const (.bool false)), 0, none, true⟩])
  .ret) .skip))
  (.seq (.seq (.region [⟨some 14, .load 30 (.tmp 2), 30, none, true⟩, ⟨some 15, .call (⟨.value (.func 13), #[.tmp 14], #[30]⟩), 4, none, true⟩, ⟨some 16, .unOp .not 4 (.tmp 15), 4, none, true⟩])
  (.cond (.tmp 16) (.seq (.region [⟨none, .store 4 (.tmp 4) (.const (.bool true)), 0, none, true⟩])
  .ret) .skip))
  (.seq (.region [⟨some 18, .load 30 (.tmp 2), 30, none, true⟩, ⟨some 19, .call (⟨.value (.func 14), #[.tmp 18], #[30]⟩), 32, none, true⟩, ⟨some 17, .move (.tmp 19), 32, none, true⟩, ⟨some 20, .extract (.tmp 17) 0, 22, none, true⟩, ⟨some 21, .extract (.tmp 17) 1, 4, none, true⟩, ⟨some 5, .assign (.tmp 20), 22, none, true⟩, ⟨some 6, .assign (.tmp 21), 4, none, true⟩])
  (.seq (.seq (.region [⟨some 22, .move (.tmp 6), 4, none, true⟩, ⟨some 23, .unOp .not 4 (.tmp 22), 4, none, true⟩, ⟨some 24, .move (.tmp 23), 4, none, true⟩, ⟨some 25, .move (.tmp 5), 22, some (some 24), false⟩, ⟨some 26, .call (⟨.value (.func 16), #[.tmp 25], #[22]⟩), 3, some (some 24), false⟩, ⟨some 27, .move (.tmp 5), 22, some (some 24), false⟩, ⟨some 28, .call (⟨.builtin .len, #[.tmp 27], #[22]⟩), 3, some (some 24), false⟩, ⟨some 29, .binOp .neq 3 (.tmp 26) (.tmp 28) 3, 4, some (some 24), false⟩, ⟨some 30, .pick (.tmp 24) (.const (.bool true)) (.tmp 29), 4, none, true⟩])
  (.cond (.tmp 30) (.seq (.region [⟨none, .store 4 (.tmp 4) (.const (.bool false)), 0, none, true⟩])
  .ret) .skip))
  (.seq (.region [⟨some 31, .move (.tmp 1), 5, none, true⟩, ⟨some 32, .convert 5 3 (.tmp 31), 3, none, true⟩, ⟨some 33, .load 30 (.tmp 2), 30, none, true⟩, ⟨some 34, .call (⟨.builtin .len, #[.tmp 33], #[30]⟩), 3, none, true⟩, ⟨some 35, .call (⟨.builtin .min, #[.tmp 32, .tmp 34], #[3, 3]⟩), 3, none, true⟩, ⟨some 7, .alloc 3, 0, none, true⟩, ⟨some 8, .alloc 3, 0, none, true⟩, ⟨some 9, .alloc 3, 0, none, true⟩, ⟨none, .store 3 (.tmp 7) (.tmp 35), 0, none, true⟩, ⟨none, .store 3 (.tmp 8) (.const (.int .i64 0)), 0, none, true⟩, ⟨none, .store 3 (.tmp 9) (.const (.int .i64 0)), 0, none, true⟩])
  (.seq (.seq (.region [⟨some 36, .move (.tmp 5), 22, none, true⟩, ⟨some 37, .call (⟨.value (.func 17), #[.tmp 36], #[22]⟩), 38, none, true⟩])
  (.block 0 (.range (.tmp 37) #[38, 39] as5_0 bd5_0)))
  (.seq (.region [⟨some 63, .load 3 (.tmp 8), 3, none, true⟩, ⟨some 64, .load 3 (.tmp 7), 3, none, true⟩, ⟨some 65, .binOp .eql 3 (.tmp 63) (.tmp 64) 3, 4, none, true⟩, ⟨none, .store 4 (.tmp 4) (.tmp 65), 0, none, true⟩])
  .ret)))))))
noncomputable def f5 : AFn := ⟨66, [.cell 4 4], b5⟩
noncomputable def as6_0 : AC :=
  .skip
noncomputable def bd6_0 : AC :=
  .block 3 (.region [⟨some 73, .load 3 (.tmp 13), 3, none, true⟩, ⟨some 74, .binOp .add 3 (.tmp 73) (.const (.int .i64 1)) 3, 3, none, true⟩, ⟨none, .store 3 (.tmp 13) (.tmp 74), 0, none, true⟩])
/-- novation/novationlaw4.FrameTorn -/
noncomputable def b6 : AC :=
  .seq (.region [⟨some 4, .assign (.const (.bool false)), 4, none, true⟩])
  (.seq (.seq (.region [⟨some 14, .call (⟨.value (.func 8), #[], #[]⟩), 4, none, true⟩, ⟨some 15, .unOp .not 4 (.tmp 14), 4, none, true⟩])
  (.cond (.tmp 15) (.seq (.region [⟨some 4, .assign (.const (.bool false)), 4, none, true⟩])
  .ret) .skip))
  (.seq (.seq (.region [⟨some 16, .move (.tmp 0), 30, none, true⟩, ⟨some 17, .call (⟨.value (.func 13), #[.tmp 16], #[30]⟩), 4, none, true⟩, ⟨some 18, .unOp .not 4 (.tmp 17), 4, none, true⟩])
  (.cond (.tmp 18) (.seq (.region [⟨some 4, .assign (.const (.bool true)), 4, none, true⟩])
  .ret) .skip))
  (.seq (.region [⟨some 20, .move (.tmp 0), 30, none, true⟩, ⟨some 21, .call (⟨.value (.func 14), #[.tmp 20], #[30]⟩), 32, none, true⟩, ⟨some 19, .move (.tmp 21), 32, none, true⟩, ⟨some 22, .extract (.tmp 19) 0, 22, none, true⟩, ⟨some 23, .extract (.tmp 19) 1, 4, none, true⟩, ⟨some 5, .assign (.tmp 22), 22, none, true⟩, ⟨some 6, .assign (.tmp 23), 4, none, true⟩])
  (.seq (.seq (.region [⟨some 24, .move (.tmp 6), 4, none, true⟩, ⟨some 25, .unOp .not 4 (.tmp 24), 4, none, true⟩])
  (.cond (.tmp 25) (.seq (.region [⟨some 4, .assign (.const (.bool false)), 4, none, true⟩])
  .ret) .skip))
  (.seq (.region [⟨some 26, .move (.tmp 1), 41, none, true⟩, ⟨some 27, .convert 41 3 (.tmp 26), 3, none, true⟩, ⟨some 28, .move (.tmp 5), 22, none, true⟩, ⟨some 29, .call (⟨.builtin .len, #[.tmp 28], #[22]⟩), 3, none, true⟩, ⟨some 30, .binOp .add 3 (.tmp 29) (.const (.int .i64 1)) 3, 3, none, true⟩, ⟨some 31, .binOp .rem 3 (.tmp 27) (.tmp 30) 3, 3, none, true⟩, ⟨some 7, .assign (.tmp 31), 3, none, true⟩])
  (.seq (.region [⟨some 8, .assign (.const (.int .i64 0)), 3, none, true⟩, ⟨some 9, .assign (.const (.int .i64 0)), 3, none, true⟩])
  (.seq (.block 0 (.loop [true, false, false, false, true, true, false, true, true, true, false, false, false, false, false, false, false, false, false, false, false, false, false, false, false, false, false, false, false, false, false, false, false, false, false, false, false, false, false, false, false, false, false, false, false, false, false, false, false, false, false, false, false, false, false, false, false, false, false, false, false, false, false, false, false, false, false, false, false, false, false, false, false, false, false, false, false, false, false, false, false, false, false, false, false, false, false, false, false, false, false, false, false, false, false, false] (.seq (.seq (.region [⟨some 32, .move (.tmp 9), 3, none, true⟩, ⟨some 33, .move (.tmp 0), 30, none, true⟩, ⟨some 34, .call (⟨.builtin .len, #[.tmp 33], #[30]⟩), 3, none, true⟩, ⟨some 35, .binOp .lss 3 (.tmp 32) (.tmp 34) 3, 4, none, true⟩, ⟨some 36, .move (.tmp 35), 4, none, true⟩, ⟨some 37, .move (.tmp 8), 3, some (some 36), true⟩, ⟨some 38, .move (.tmp 0), 30, some (some 36), true⟩, ⟨some 39, .move (.tmp 9), 3, some (some 36), true⟩, ⟨some 40, .indexAddr 30 (.tmp 38) (.tmp 39), 0, some (some 36), true⟩, ⟨some 41, .load 22 (.tmp 40), 22, some (some 36), true⟩, ⟨some 42, .call (⟨.builtin .len, #[.tmp 41], #[22]⟩), 3, some (some 36), true⟩, ⟨some 43, .binOp .add 3 (.tmp 37) (.tmp 42) 3, 3, some (some 36), true⟩, ⟨some 44, .binOp .add 3 (.tmp 43) (.const (.int .i64 6)) 3, 3, some (some 36), true⟩, ⟨some 45, .move (.tmp 7), 3, some (some 36), true⟩, ⟨some 46, .binOp .leq 3 (.tmp 44) (.tmp 45) 3, 4, some (some 36), true⟩, ⟨some 47, .pick (.tmp 36) (.tmp 46) (.const (.bool false)), 4, none, true⟩])
  (.cond (.tmp 47) .skip (.exit 0)))
  (.block 1 (.seq (.region [⟨some 48, .move (.tmp 8), 3, none, true⟩, ⟨some 49, .move (.tmp 0), 30, none, true⟩, ⟨some 50, .move (.tmp 9), 3, none, true⟩, ⟨some 51, .indexAddr 30 (.tmp 49) (.tmp 50), 0, none, true⟩, ⟨some 52, .load 22 (.tmp 51), 22, none, true⟩, ⟨some 53, .call (⟨.builtin .len, #[.tmp 52], #[22]⟩), 3, none, true⟩, ⟨some 54, .binOp .add 3 (.tmp 53) (.const (.int .i64 6)) 3, 3, none, true⟩, ⟨some 55, .binOp .add 3 (.tmp 48) (.tmp 54) 3, 3, none, true⟩, ⟨some 8, .assign (.tmp 55), 3, none, true⟩])
  (.region [⟨some 56, .move (.tmp 9), 3, none, true⟩, ⟨some 57, .binOp .add 3 (.tmp 56) (.const (.int .i64 1)) 3, 3, none, true⟩, ⟨some 9, .assign (.tmp 57), 3, none, true⟩]))))))
  (.seq (.region [⟨some 59, .move (.tmp 5), 22, none, true⟩, ⟨some 60, .move (.tmp 8), 3, none, true⟩, ⟨some 61, .move (.tmp 7), 3, none, true⟩, ⟨some 62, .slice 22 (.tmp 59) (some (.tmp 60)) (some (.tmp 61)) none, 22, none, true⟩, ⟨some 63, .call (⟨.value (.func 18), #[.tmp 62], #[22]⟩), 42, none, true⟩, ⟨some 58, .move (.tmp 63), 42, none, true⟩, ⟨some 64, .extract (.tmp 58) 0, 22, none, true⟩, ⟨some 65, .extract (.tmp 58) 1, 3, none, true⟩, ⟨some 66, .extract (.tmp 58) 2, 24, none, true⟩, ⟨some 10, .assign (.tmp 64), 22, none, true⟩, ⟨some 11, .assign (.tmp 65), 3, none, true⟩, ⟨some 12, .assign (.tmp 66), 24, none, true⟩])
  (.seq (.region [⟨some 13, .alloc 3, 0, none, true⟩, ⟨none, .store 3 (.tmp 13) (.const (.int .i64 0)), 0, none, true⟩])
  (.seq (.seq (.region [⟨some 67, .move (.tmp 5), 22, none, true⟩, ⟨some 68, .move (.tmp 7), 3, none, true⟩, ⟨some 69, .slice 22 (.tmp 67) none (some (.tmp 68)) none, 22, none, true⟩, ⟨some 70, .call (⟨.value (.func 17), #[.tmp 69], #[22]⟩), 38, none, true⟩])
  (.block 2 (.range (.tmp 70) #[71, 72] as6_0 bd6_0)))
  (.seq (.region [⟨some 75, .move (.tmp 5), 22, none, true⟩, ⟨some 76, .move (.tmp 7), 3, none, true⟩, ⟨some 77, .slice 22 (.tmp 75) none (some (.tmp 76)) none, 22, none, true⟩, ⟨some 78, .call (⟨.value (.func 16), #[.tmp 77], #[22]⟩), 3, none, true⟩, ⟨some 79, .move (.tmp 8), 3, none, true⟩, ⟨some 80, .binOp .eql 3 (.tmp 78) (.tmp 79) 3, 4, none, true⟩, ⟨some 81, .move (.tmp 80), 4, none, true⟩, ⟨some 82, .load 3 (.tmp 13), 3, some (some 81), true⟩, ⟨some 83, .move (.tmp 9), 3, some (some 81), true⟩, ⟨some 84, .binOp .eql 3 (.tmp 82) (.tmp 83) 3, 4, some (some 81), true⟩, ⟨some 85, .pick (.tmp 81) (.tmp 84) (.const (.bool false)), 4, none, true⟩, ⟨some 86, .move (.tmp 85), 4, none, true⟩, ⟨some 87, .move (.tmp 9), 3, some (some 86), true⟩, ⟨some 88, .move (.tmp 0), 30, some (some 86), true⟩, ⟨some 89, .call (⟨.builtin .len, #[.tmp 88], #[30]⟩), 3, some (some 86), true⟩, ⟨some 90, .binOp .eql 3 (.tmp 87) (.tmp 89) 3, 4, some (some 86), true⟩, ⟨some 91, .move (.tmp 90), 4, some (some 86), true⟩, ⟨some 92, .move (.tmp 12), 24, some (some 91), false⟩, ⟨some 93, .binOp .eql 24 (.tmp 92) (.const (.int .i64 12)) 24, 4, some (some 91), false⟩, ⟨some 94, .pick (.tmp 91) (.const (.bool true)) (.tmp 93), 4, some (some 86), true⟩, ⟨some 95, .pick (.tmp 86) (.tmp 94) (.const (.bool false)), 4, none, true⟩, ⟨some 4, .assign (.tmp 95), 4, none, true⟩])
  .ret)))))))))))
noncomputable def f6 : AFn := ⟨96, [.tmp 4], b6⟩
/-- novation/novationlaw4.FrameBursts -/
noncomputable def b7 : AC :=
  .seq (.region [⟨some 6, .assign (.const (.bool false)), 4, none, true⟩])
  (.seq (.seq (.region [⟨some 14, .call (⟨.value (.func 8), #[], #[]⟩), 4, none, true⟩, ⟨some 15, .unOp .not 4 (.tmp 14), 4, none, true⟩])
  (.cond (.tmp 15) (.seq (.region [⟨some 6, .assign (.const (.bool false)), 4, none, true⟩])
  .ret) .skip))
  (.seq (.seq (.region [⟨some 16, .move (.tmp 0), 22, none, true⟩, ⟨some 17, .call (⟨.builtin .len, #[.tmp 16], #[22]⟩), 3, none, true⟩, ⟨some 18, .binOp .gtr 3 (.tmp 17) (.const (.int .i64 400)) 3, 4, none, true⟩, ⟨some 19, .move (.tmp 18), 4, none, true⟩, ⟨some 20, .move (.tmp 2), 27, some (some 19), false⟩, ⟨some 21, .binOp .eql 27 (.tmp 20) (.const (.int .u32 0)) 27, 4, some (some 19), false⟩, ⟨some 22, .pick (.tmp 19) (.const (.bool true)) (.tmp 21), 4, none, true⟩])
  (.cond (.tmp 22) (.seq (.region [⟨some 6, .assign (.const (.bool true)), 4, none, true⟩])
  .ret) .skip))
  (.seq (.region [⟨some 24, .move (.tmp 0), 22, none, true⟩, ⟨some 25, .call (⟨.value (.func 9), #[.tmp 24], #[22]⟩), 25, none, true⟩, ⟨some 23, .move (.tmp 25), 25, none, true⟩, ⟨some 26, .extract (.tmp 23) 0, 22, none, true⟩, ⟨some 27, .extract (.tmp 23) 1, 24, none, true⟩, ⟨some 7, .assign (.tmp 26), 22, none, true⟩, ⟨some 8, .assign (.tmp 27), 24, none, true⟩])
  (.seq (.seq (.region [⟨some 28, .move (.tmp 8), 24, none, true⟩, ⟨some 29, .binOp .neq 24 (.tmp 28) (.const (.int .i64 0)) 24, 4, none, true⟩, ⟨some 30, .move (.tmp 29), 4, none, true⟩, ⟨some 31, .move (.tmp 7), 22, some (some 30), false⟩, ⟨some 32, .call (⟨.builtin .len, #[.tmp 31], #[22]⟩), 3, some (some 30), false⟩, ⟨some 33, .move (.tmp 0), 22, some (some 30), false⟩, ⟨some 34, .call (⟨.builtin .len, #[.tmp 33], #[22]⟩), 3, some (some 30), false⟩, ⟨some 35, .binOp .add 3 (.tmp 34) (.const (.int .i64 6)) 3, 3, some (some 30), false⟩, ⟨some 36, .binOp .neq 3 (.tmp 32) (.tmp 35) 3, 4, some (some 30), false⟩, ⟨some 37, .pick (.tmp 30) (.const (.bool true)) (.tmp 36), 4, none, true⟩])
  (.cond (.tmp 37) (.seq (.region [⟨some 6, .assign (.const (.bool false)), 4, none, true⟩])
  .ret) .skip))
  (.seq (.region [⟨some 38, .move (.tmp 1), 41, none, true⟩, ⟨some 39, .convert 41 3 (.tmp 38), 3, none, true⟩, ⟨some 40, .move (.tmp 7), 22, none, true⟩, ⟨some 41, .call (⟨.builtin .len, #[.tmp 40], #[22]⟩), 3, none, true⟩, ⟨some 42, .binOp .mul 3 (.const (.int .i64 8)) (.tmp 41) 3, 3, none, true⟩, ⟨some 43, .binOp .sub 3 (.tmp 42) (.const (.int .i64 47)) 3, 3, none, true⟩, ⟨some 44, .binOp .rem 3 (.tmp 39) (.tmp 43) 3, 3, none, true⟩, ⟨some 45, .binOp .add 3 (.const (.int .i64 16)) (.tmp 44) 3, 3, none, true⟩, ⟨some 9, .assign (.tmp 45), 3, none, true⟩])
  (.seq (.seq (.region [⟨some 10, .assign (.const (.int .i64 0)), 3, none, true⟩])
  (.block 0 (.loop [false, false, true, false, false, false, false, true, false, true, true, false, false, false, false, false, false, false, false, false, false, false, false, false, false, false, false, false, false, false, false, false, false, false, false, false, false, false, false, false, false, false, false, false, false, false, false, false, false, false, false, false, false, false, false, false, false, false, false, false, false, false, false, false, false, false, false, false, false, false, false, false, false, false, false, false, false, false, false, false, false, false] (.seq (.seq (.region [⟨some 46, .move (.tmp 10), 3, none, true⟩, ⟨some 47, .binOp .lss 3 (.tmp 46) (.const (.int .i64 32)) 3, 4, none, true⟩])
  (.cond (.tmp 47) .skip (.exit 0)))
  (.seq (.block 1 (.seq (.region [⟨some 50, .move (.tmp 2), 27, none, true⟩, ⟨some 51, .move (.tmp 10), 3, none, true⟩, ⟨some 52, .binOp .shr 27 (.tmp 50) (.tmp 51) 3, 27, none, true⟩, ⟨some 53, .binOp .and 27 (.tmp 52) (.const (.int .u32 1)) 27, 27, none, true⟩, ⟨some 54, .binOp .eql 27 (.tmp 53) (.const (.int .u32 1)) 27, 4, none, true⟩])
  (.cond (.tmp 54) (.draw (drawOf T.c7 13) [0, 1, 2, 3, 4, 5, 6, 7, 8, 9, 10, 11, 12, 13, 14] [[], [], [], [1, 2], [1, 2, 3], [0, 1, 2, 3, 4], [0, 1, 2, 3, 4, 5], [], [], [7, 8], [7, 8, 9], [7, 8, 9, 10], [0, 1, 2, 3, 4, 5, 6, 7, 8, 9, 10, 11], [0, 1, 2, 3, 4, 5, 6, 7, 8, 9, 10, 11, 12], [0, 1, 2, 3, 4, 5, 6, 7, 8, 9, 10, 11, 12, 13]]) .skip)))
  (.region [⟨some 48, .move (.tmp 10), 3, none, true⟩, ⟨some 49, .binOp .add 3 (.tmp 48) (.const (.int .i64 1)) 3, 3, none, true⟩, ⟨some 10, .assign (.tmp 49), 3, none, true⟩]))))))
  (.seq (.region [⟨some 70, .move (.tmp 7), 22, none, true⟩, ⟨some 71, .call (⟨.value (.func 18), #[.tmp 70], #[22]⟩), 42, none, true⟩, ⟨some 69, .move (.tmp 71), 42, none, true⟩, ⟨some 72, .extract (.tmp 69) 0, 22, none, true⟩, ⟨some 73, .extract (.tmp 69) 1, 3, none, true⟩, ⟨some 74, .extract (.tmp 69) 2, 24, none, true⟩, ⟨some 11, .assign (.tmp 72), 22, none, true⟩, ⟨some 12, .assign (.tmp 73), 3, none, true⟩, ⟨some 13, .assign (.tmp 74), 24, none, true⟩])
  (.seq (.region [⟨some 75, .move (.tmp 13), 24, none, true⟩, ⟨some 76, .binOp .eql 24 (.tmp 75) (.const (.int .i64 13)) 24, 4, none, true⟩, ⟨some 77, .move (.tmp 76), 4, none, true⟩, ⟨some 78, .move (.tmp 7), 22, some (some 77), true⟩, ⟨some 79, .call (⟨.value (.func 16), #[.tmp 78], #[22]⟩), 3, some (some 77), true⟩, ⟨some 80, .binOp .eql 3 (.tmp 79) (.const (.int .i64 0)) 3, 4, some (some 77), true⟩, ⟨some 81, .pick (.tmp 77) (.tmp 80) (.const (.bool false)), 4, none, true⟩, ⟨some 6, .assign (.tmp 81), 4, none, true⟩])
  .ret))))))))
noncomputable def f7 : AFn := ⟨82, [.tmp 6], b7⟩
noncomputable def as8_0 : AC :=
  .seq (.region [⟨some 11, .assign (.tmp 41), 3, none, true⟩])
  (.region [⟨some 12, .assign (.tmp 42), 22, none, true⟩])
noncomputable def bd8_0 : AC :=
  .block 1 (.seq (.seq (.region [⟨some 43, .move (.tmp 11), 3, none, true⟩, ⟨some 44, .load 3 (.tmp 9), 3, none, true⟩, ⟨some 45, .binOp .mul 3 (.const (.int .i64 6)) (.tmp 44) 3, 3, none, true⟩, ⟨some 46, .binOp .neq 3 (.tmp 43) (.tmp 45) 3, 4, none, true⟩, ⟨some 47, .move (.tmp 46), 4, none, true⟩, ⟨some 48, .move (.tmp 12), 22, some (some 47), false⟩, ⟨some 49, .call (⟨.builtin .len, #[.tmp 48], #[22]⟩), 3, some (some 47), false⟩, ⟨some 50, .binOp .neq 3 (.tmp 49) (.const (.int .i64 0)) 3, 4, some (some 47), false⟩, ⟨some 51, .pick (.tmp 47) (.const (.bool true)) (.tmp 50), 4, none, true⟩])
  (.cond (.tmp 51) (.seq (.region [⟨none, .store 4 (.tmp 0) (.const (.bool false)), 0, none, true⟩])
  .ret) .skip))
  (.region [⟨some 52, .load 3 (.tmp 9), 3, none, true⟩, ⟨some 53, .binOp .add 3 (.tmp 52) (.const (.int .i64 1)) 3, 3, none, true⟩, ⟨none, .store 3 (.tmp 9) (.tmp 53), 0, none, true⟩]))
/-- novation/novationlaw4.known -/
noncomputable def b8 : AC :=
  .seq (.region [⟨some 0, .alloc 4, 0, none, true⟩])
  (.seq (.region [⟨some 14, .call (⟨.value (.func 9), #[.const (.slice none 0 0)], #[22]⟩), 25, none, true⟩, ⟨some 13, .move (.tmp 14), 25, none, true⟩, ⟨some 15, .extract (.tmp 13) 0, 22, none, true⟩, ⟨some 16, .extract (.tmp 13) 1, 24, none, true⟩, ⟨some 1, .assign (.tmp 15), 22, none, true⟩, ⟨some 2, .assign (.tmp 16), 24, none, true⟩])
  (.seq (.region [⟨some 18, .buildSlice 22 0 #[], 22, none, true⟩, ⟨some 19, .move (.tmp 1), 22, none, true⟩, ⟨some 20, .call (⟨.builtin .append, #[.tmp 18, .tmp 19], #[22, 22]⟩), 22, none, true⟩, ⟨some 21, .buildSlice 22 1 #[(0, .const (.int .u8 9))], 22, none, true⟩, ⟨some 22, .call (⟨.builtin .append, #[.tmp 20, .tmp 21], #[22, 22]⟩), 22, none, true⟩, ⟨some 23, .call (⟨.value (.func 18), #[.tmp 22], #[22]⟩), 42, none, true⟩, ⟨some 17, .move (.tmp 23), 42, none, true⟩, ⟨some 24, .extract (.tmp 17) 0, 22, none, true⟩, ⟨some 25, .extract (.tmp 17) 1, 3, none, true⟩, ⟨some 26, .extract (.tmp 17) 2, 24, none, true⟩, ⟨some 3, .assign (.tmp 24), 22, none, true⟩, ⟨some 4, .assign (.tmp 25), 3, none, true⟩, ⟨some 5, .assign (.tmp 26), 24, none, true⟩])
  (.seq (.region [⟨some 28, .call (⟨.value (.func 18), #[.const (.slice none 0 0)], #[22]⟩), 42, none, true⟩, ⟨some 27, .move (.tmp 28), 42, none, true⟩, ⟨some 29, .extract (.tmp 27) 0, 22, none, true⟩, ⟨some 30, .extract (.tmp 27) 1, 3, none, true⟩, ⟨some 31, .extract (.tmp 27) 2, 24, none, true⟩, ⟨some 6, .assign (.tmp 29), 22, none, true⟩, ⟨some 7, .assign (.tmp 30), 3, none, true⟩, ⟨some 8, .assign (.tmp 31), 24, none, true⟩])
  (.seq (.region [⟨some 9, .alloc 3, 0, none, true⟩, ⟨none, .store 3 (.tmp 9) (.const (.int .i64 0)), 0, none, true⟩])
  (.seq (.region [⟨some 32, .buildSlice 22 0 #[], 22, none, true⟩, ⟨some 33, .move (.tmp 1), 22, none, true⟩, ⟨some 34, .call (⟨.builtin .append, #[.tmp 32, .tmp 33], #[22, 22]⟩), 22, none, true⟩, ⟨some 35, .move (.tmp 1), 22, none, true⟩, ⟨some 36, .call (⟨.builtin .append, #[.tmp 34, .tmp 35], #[22, 22]⟩), 22, none, true⟩, ⟨some 37, .call (⟨.value (.func 17), #[.tmp 36], #[22]⟩), 38, none, true⟩, ⟨some 10, .assign (.tmp 37), 38, none, true⟩])
  (.seq (.seq (.region [⟨some 38, .move (.tmp 10), 38, none, true⟩, ⟨some 39, .binOp .eql 38 (.tmp 38) (.const .nilFunc) 38, 4, none, true⟩])
  (.cond (.tmp 39) (.seq (.region [⟨none, .store 4 (.tmp 0) (.const (.bool false)), 0, none, true⟩])
  .ret) .skip))
  (.seq (.seq (.region [⟨some 40, .move (.tmp 10), 38, none, true⟩])
  (.block 0 (.range (.tmp 40) #[41, 42] as8_0 bd8_0)))
  (.seq (.region [⟨some 54, .buildSlice 22 9 #[(0, .const (.int .u8 49)), (1, .const (.int .u8 50)), (2, .const (.int .u8 51)), (3, .const (.int .u8 52)), (4, .const (.int .u8 53)), (5, .const (.int .u8 54)), (6, .const (.int .u8 55)), (7, .const (.int .u8 56)), (8, .const (.int .u8 57))], 22, none, true⟩, ⟨some 55, .convert 22 22 (.tmp 54), 22, none, true⟩, ⟨some 56, .call (⟨.value (.func 11), #[.tmp 55], #[22]⟩), 27, none, true⟩, ⟨some 57, .binOp .eql 27 (.tmp 56) (.const (.int .u32 3421780262)) 27, 4, none, true⟩, ⟨some 58, .move (.tmp 57), 4, none, true⟩, ⟨some 59, .move (.tmp 2), 24, some (some 58), true⟩, ⟨some 60, .binOp .eql 24 (.tmp 59) (.const (.int .i64 0)) 24, 4, some (some 58), true⟩, ⟨some 61, .pick (.tmp 58) (.tmp 60) (.const (.bool false)), 4, none, true⟩, ⟨some 62, .move (.tmp 61), 4, none, true⟩, ⟨some 63, .move (.tmp 1), 22, some (some 62), true⟩, ⟨some 64, .convert 22 9 (.tmp 63), 9, some (some 62), true⟩, ⟨some 65, .binOp .eql 9 (.tmp 64) (.const (.string (⟨#[0, 0, 255, 18, 217, 65]⟩))) 9, 4, some (some 62), true⟩, ⟨some 66, .pick (.tmp 62) (.tmp 65) (.const (.bool false)), 4, none, true⟩, ⟨some 67, .move (.tmp 66), 4, none, true⟩, ⟨some 68, .move (.tmp 5), 24, some (some 67), true⟩, ⟨some 69, .binOp .eql 24 (.tmp 68) (.const (.int .i64 0)) 24, 4, some (some 67), true⟩, ⟨some 70, .pick (.tmp 67) (.tmp 69) (.const (.bool false)), 4, none, true⟩, ⟨some 71, .move (.tmp 70), 4, none, true⟩, ⟨some 72, .move (.tmp 3), 22, some (some 71), true⟩, ⟨some 73, .call (⟨.builtin .len, #[.tmp 72], #[22]⟩), 3, some (some 71), true⟩, ⟨some 74, .binOp .eql 3 (.tmp 73) (.const (.int .i64 0)) 3, 4, some (some 71), true⟩, ⟨some 75, .pick (.tmp 71) (.tmp 74) (.const (.bool false)), 4, none, true⟩, ⟨some 76, .move (.tmp 75), 4, none, true⟩, ⟨some 77, .move (.tmp 4), 3, some (some 76), true⟩, ⟨some 78, .binOp .eql 3 (.tmp 77) (.const (.int .i64 6)) 3, 4, some (some 76), true⟩, ⟨some 79, .pick (.tmp 76) (.tmp 78) (.const (.bool false)), 4, none, true⟩, ⟨some 80, .move (.tmp 79), 4, none, true⟩, ⟨some 81, .move (.tmp 8), 24, some (some 80), true⟩, ⟨some 82, .binOp .eql 24 (.tmp 81) (.const (.int .i64 12)) 24, 4, some (some 80), true⟩, ⟨some 83, .pick (.tmp 80) (.tmp 82) (.const (.bool false)), 4, none, true⟩, ⟨some 84, .move (.tmp 83), 4, none, true⟩, ⟨some 85, .load 3 (.tmp 9), 3, some (some 84), true⟩, ⟨some 86, .binOp .eql 3 (.tmp 85) (.const (.int .i64 2)) 3, 4, some (some 84), true⟩, ⟨some 87, .pick (.tmp 84) (.tmp 86) (.const (.bool false)), 4, none, true⟩, ⟨some 88, .move (.tmp 87), 4, none, true⟩, ⟨some 89, .move (.tmp 1), 22, some (some 88), true⟩, ⟨some 90, .call (⟨.value (.func 16), #[.tmp 89], #[22]⟩), 3, some (some 88), true⟩, ⟨some 91, .binOp .eql 3 (.tmp 90) (.const (.int .i64 6)) 3, 4, some (some 88), true⟩, ⟨some 92, .pick (.tmp 88) (.tmp 91) (.const (.bool false)), 4, none, true⟩, ⟨none, .store 4 (.tmp 0) (.tmp 92), 0, none, true⟩])
  .ret))))))))
noncomputable def f8 : AFn := ⟨93, [.cell 0 4], b8⟩
/-- novation/frame.Put -/
noncomputable def b9 : AC :=
  .seq (.region [⟨some 2, .assign (.const (.slice none 0 0)), 22, none, true⟩, ⟨some 3, .assign (.const (.int .i64 0)), 24, none, true⟩])
  (.seq (.seq (.region [⟨some 5, .move (.tmp 0), 22, none, true⟩, ⟨some 6, .call (⟨.builtin .len, #[.tmp 5], #[22]⟩), 3, none, true⟩, ⟨some 7, .binOp .gtr 3 (.tmp 6) (.const (.int .i64 400)) 3, 4, none, true⟩])
  (.cond (.tmp 7) (.seq (.region [⟨some 2, .assign (.const (.slice none 0 0)), 22, none, true⟩, ⟨some 3, .assign (.const (.int .i64 1)), 24, none, true⟩])
  .ret) .skip))
  (.seq (.region [⟨some 8, .move (.tmp 0), 22, none, true⟩, ⟨some 9, .call (⟨.builtin .len, #[.tmp 8], #[22]⟩), 3, none, true⟩, ⟨some 10, .binOp .add 3 (.tmp 9) (.const (.int .i64 6)) 3, 3, none, true⟩, ⟨some 11, .makeSlice 22 (.const (.int .i64 0)) (.tmp 10), 22, none, true⟩, ⟨some 4, .assign (.tmp 11), 22, none, true⟩])
  (.seq (.region [⟨some 12, .move (.tmp 4), 22, none, true⟩, ⟨some 13, .move (.tmp 0), 22, none, true⟩, ⟨some 14, .call (⟨.builtin .len, #[.tmp 13], #[22]⟩), 3, none, true⟩, ⟨some 15, .binOp .shr 3 (.tmp 14) (.const (.int .u64 8)) 46, 3, none, true⟩, ⟨some 16, .convert 3 5 (.tmp 15), 5, none, true⟩, ⟨some 17, .move (.tmp 0), 22, none, true⟩, ⟨some 18, .call (⟨.builtin .len, #[.tmp 17], #[22]⟩), 3, none, true⟩, ⟨some 19, .convert 3 5 (.tmp 18), 5, none, true⟩, ⟨some 20, .buildSlice 22 2 #[(0, .tmp 16), (1, .tmp 19)], 22, none, true⟩, ⟨some 21, .call (⟨.builtin .append, #[.tmp 12, .tmp 20], #[22, 22]⟩), 22, none, true⟩, ⟨some 4, .assign (.tmp 21), 22, none, true⟩])
  (.seq (.region [⟨some 22, .move (.tmp 4), 22, none, true⟩, ⟨some 23, .move (.tmp 0), 22, none, true⟩, ⟨some 24, .call (⟨.builtin .append, #[.tmp 22, .tmp 23], #[22, 22]⟩), 22, none, true⟩, ⟨some 4, .assign (.tmp 24), 22, none, true⟩])
  (.seq (.region [⟨some 25, .move (.tmp 4), 22, none, true⟩, ⟨some 26, .move (.tmp 4), 22, none, true⟩, ⟨some 27, .call (⟨.value (.func 11), #[.tmp 26], #[22]⟩), 27, none, true⟩, ⟨some 28, .call (⟨.value (.func 19), #[.tmp 27], #[27]⟩), 22, none, true⟩, ⟨some 29, .call (⟨.builtin .append, #[.tmp 25, .tmp 28], #[22, 22]⟩), 22, none, true⟩, ⟨some 2, .assign (.tmp 29), 22, none, true⟩, ⟨some 3, .assign (.const (.int .i64 0)), 24, none, true⟩])
  .ret)))))
noncomputable def f9 : AFn := ⟨30, [.tmp 2, .tmp 3], b9⟩
/-- novation/novationref4.Frame -/
noncomputable def b10 : AC :=
  .seq (.region [⟨some 2, .assign (.const (.slice none 0 0)), 22, none, true⟩, ⟨some 3, .assign (.const (.int .i64 0)), 24, none, true⟩])
  (.seq (.seq (.region [⟨some 6, .move (.tmp 0), 22, none, true⟩, ⟨some 7, .call (⟨.builtin .len, #[.tmp 6], #[22]⟩), 3, none, true⟩, ⟨some 8, .binOp .gtr 3 (.tmp 7) (.const (.int .i64 400)) 3, 4, none, true⟩])
  (.cond (.tmp 8) (.seq (.region [⟨some 2, .assign (.const (.slice none 0 0)), 22, none, true⟩, ⟨some 3, .assign (.const (.int .i64 1)), 24, none, true⟩])
  .ret) .skip))
  (.seq (.region [⟨some 9, .move (.tmp 0), 22, none, true⟩, ⟨some 10, .call (⟨.builtin .len, #[.tmp 9], #[22]⟩), 3, none, true⟩, ⟨some 11, .binOp .quo 3 (.tmp 10) (.const (.int .i64 256)) 3, 3, none, true⟩, ⟨some 12, .convert 3 5 (.tmp 11), 5, none, true⟩, ⟨some 13, .move (.tmp 0), 22, none, true⟩, ⟨some 14, .call (⟨.builtin .len, #[.tmp 13], #[22]⟩), 3, none, true⟩, ⟨some 15, .binOp .rem 3 (.tmp 14) (.const (.int .i64 256)) 3, 3, none, true⟩, ⟨some 16, .convert 3 5 (.tmp 15), 5, none, true⟩, ⟨some 17, .buildSlice 22 2 #[(0, .tmp 12), (1, .tmp 16)], 22, none, true⟩, ⟨some 18, .move (.tmp 0), 22, none, true⟩, ⟨some 19, .call (⟨.builtin .append, #[.tmp 17, .tmp 18], #[22, 22]⟩), 22, none, true⟩, ⟨some 4, .assign (.tmp 19), 22, none, true⟩])
  (.seq (.region [⟨some 20, .move (.tmp 4), 22, none, true⟩, ⟨some 21, .call (⟨.value (.func 12), #[.tmp 20], #[22]⟩), 27, none, true⟩, ⟨some 5, .assign (.tmp 21), 27, none, true⟩])
  (.seq (.region [⟨some 22, .move (.tmp 4), 22, none, true⟩, ⟨some 23, .move (.tmp 5), 27, none, true⟩, ⟨some 24, .binOp .and 27 (.tmp 23) (.const (.int .u32 255)) 27, 27, none, true⟩, ⟨some 25, .convert 27 5 (.tmp 24), 5, none, true⟩, ⟨some 26, .move (.tmp 5), 27, none, true⟩, ⟨some 27, .binOp .shr 27 (.tmp 26) (.const (.int .u64 8)) 46, 27, none, true⟩, ⟨some 28, .binOp .and 27 (.tmp 27) (.const (.int .u32 255)) 27, 27, none, true⟩, ⟨some 29, .convert 27 5 (.tmp 28), 5, none, true⟩, ⟨some 30, .move (.tmp 5), 27, none, true⟩, ⟨some 31, .binOp .shr 27 (.tmp 30) (.const (.int .u64 16)) 46, 27, none, true⟩, ⟨some 32, .binOp .and 27 (.tmp 31) (.const (.int .u32 255)) 27, 27, none, true⟩, ⟨some 33, .convert 27 5 (.tmp 32), 5, none, true⟩, ⟨some 34, .move (.tmp 5), 27, none, true⟩, ⟨some 35, .binOp .shr 27 (.tmp 34) (.const (.int .u64 24)) 46, 27, none, true⟩, ⟨some 36, .convert 27 5 (.tmp 35), 5, none, true⟩, ⟨some 37, .buildSlice 22 4 #[(0, .tmp 25), (1, .tmp 29), (2, .tmp 33), (3, .tmp 36)], 22, none, true⟩, ⟨some 38, .call (⟨.builtin .append, #[.tmp 22, .tmp 37], #[22, 22]⟩), 22, none, true⟩, ⟨some 2, .assign (.tmp 38), 22, none, true⟩, ⟨some 3, .assign (.const (.int .i64 0)), 24, none, true⟩])
  .ret))))
noncomputable def f10 : AFn := ⟨39, [.tmp 2, .tmp 3], b10⟩
/-- novation/frame.Sum -/
noncomputable def b11 : AC :=
  .seq (.region [⟨some 2, .assign (.const (.int .u32 0)), 27, none, true⟩])
  (.seq (.region [⟨some 3, .assign (.const (.int .u32 4294967295)), 27, none, true⟩])
  (.seq (.seq (.region [⟨some 7, .move (.tmp 0), 22, none, true⟩, ⟨some 8, .call (⟨.builtin .len, #[.tmp 7], #[22]⟩), 3, none, true⟩, ⟨some 9, .move (.const (.int .i64 0)), 3, none, true⟩])
  (.block 0 (.loop [false, false, false, true, false, false, false, true, true, true, false, false, false, false, false, false, false, false, false, false, false, false, false, false, false, false, false, false, false, false, false] (.seq (.region [⟨some 10, .binOp .lss 3 (.tmp 9) (.tmp 8) 3, 0, none, true⟩])
  (.seq (.cond (.tmp 10) .skip (.exit 0))
  (.seq (.block 1 (.seq (.region [⟨some 11, .indexAddr 22 (.tmp 7) (.tmp 9), 0, none, true⟩, ⟨some 12, .load 5 (.tmp 11), 5, none, true⟩, ⟨some 5, .assign (.tmp 12), 5, none, true⟩])
  (.seq (.region [⟨some 13, .move (.tmp 3), 27, none, true⟩, ⟨some 14, .move (.tmp 5), 5, none, true⟩, ⟨some 15, .convert 5 27 (.tmp 14), 27, none, true⟩, ⟨some 16, .binOp .xor 27 (.tmp 13) (.tmp 15) 27, 27, none, true⟩, ⟨some 3, .assign (.tmp 16), 27, none, true⟩])
  (.seq (.region [⟨some 17, .move (.const (.int .i64 0)), 3, none, true⟩])
  (.block 2 (.loop [false, false, false, true, false, false, false, true, true, true, false, false, false, false, false, false, false, true, false, false, false, false, false, false, false, false, false, false, false, false, false] (.seq (.region [⟨some 18, .binOp .lss 3 (.tmp 17) (.const (.int .i64 8)) 3, 4, none, true⟩])
  (.seq (.cond (.tmp 18) .skip (.exit 2))
  (.seq (.block 3 (.seq (.region [⟨some 19, .move (.tmp 3), 27, none, true⟩, ⟨some 20, .binOp .and 27 (.tmp 19) (.const (.int .u32 1)) 27, 27, none, true⟩, ⟨some 6, .assign (.tmp 20), 27, none, true⟩])
  (.seq (.region [⟨some 21, .move (.tmp 3), 27, none, true⟩, ⟨some 22, .binOp .shr 27 (.tmp 21) (.const (.int .u64 1)) 46, 27, none, true⟩, ⟨some 3, .assign (.tmp 22), 27, none, true⟩])
  (.seq (.region [⟨some 23, .move (.tmp 6), 27, none, true⟩, ⟨some 24, .binOp .eql 27 (.tmp 23) (.const (.int .u32 1)) 27, 4, none, true⟩])
  (.cond (.tmp 24) (.region [⟨some 25, .move (.tmp 3), 27, none, true⟩, ⟨some 26, .binOp .xor 27 (.tmp 25) (.const (.int .u32 3988292384)) 27, 27, none, true⟩, ⟨some 3, .assign (.tmp 26), 27, none, true⟩]) .skip)))))
  (.region [⟨some 27, .binOp .add 3 (.tmp 17) (.const (.int .i64 1)) 3, 3, none, true⟩, ⟨some 17, .move (.tmp 27), 3, none, true⟩]))))))))))
  (.region [⟨some 28, .binOp .add 3 (.tmp 9) (.const (.int .i64 1)) 3, 3, none, true⟩, ⟨some 9, .move (.tmp 28), 3, none, true⟩])))))))
  (.seq (.region [⟨some 29, .move (.tmp 3), 27, none, true⟩, ⟨some 30, .unOp .xor 27 (.tmp 29), 27, none, true⟩, ⟨some 2, .assign (.tmp 30), 27, none, true⟩])
  .ret)))
noncomputable def f11 : AFn := ⟨31, [.tmp 2], b11⟩
/-- novation/novationref4.Crc -/
noncomputable def b12 : AC :=
  .seq (.region [⟨some 2, .assign (.const (.int .u32 0)), 27, none, true⟩])
  (.seq (.region [⟨some 3, .assign (.const (.int .u32 4294967295)), 27, none, true⟩])
  (.seq (.seq (.region [⟨some 4, .assign (.const (.int .i64 0)), 3, none, true⟩])
  (.block 0 (.loop [true, false, false, true, true, false, false, false, false, false, false, false, false, false, false, false, false, false, false, false, false, false, false, false, false, false, false, false, false, false, false, false, false, false] (.seq (.seq (.region [⟨some 7, .move (.tmp 4), 3, none, true⟩, ⟨some 8, .move (.tmp 0), 22, none, true⟩, ⟨some 9, .call (⟨.builtin .len, #[.tmp 8], #[22]⟩), 3, none, true⟩, ⟨some 10, .binOp .lss 3 (.tmp 7) (.tmp 9) 3, 4, none, true⟩])
  (.cond (.tmp 10) .skip (.exit 0)))
  (.seq (.block 1 (.seq (.region [⟨some 13, .move (.tmp 3), 27, none, true⟩, ⟨some 14, .move (.tmp 0), 22, none, true⟩, ⟨some 15, .move (.tmp 4), 3, none, true⟩, ⟨some 16, .indexAddr 22 (.tmp 14) (.tmp 15), 0, none, true⟩, ⟨some 17, .load 5 (.tmp 16), 5, none, true⟩, ⟨some 18, .convert 5 27 (.tmp 17), 27, none, true⟩, ⟨some 19, .binOp .xor 27 (.tmp 13) (.tmp 18) 27, 27, none, true⟩, ⟨some 3, .assign (.tmp 19), 27, none, true⟩])
  (.seq (.region [⟨some 5, .assign (.const (.int .i64 0)), 3, none, true⟩])
  (.block 2 (.loop [true, false, false, true, true, true, false, false, false, false, false, false, false, false, false, false, false, false, false, false, false, false, false, false, false, false, false, false, false, false, false, false, false, false] (.seq (.seq (.region [⟨some 20, .move (.tmp 5), 3, none, true⟩, ⟨some 21, .binOp .lss 3 (.tmp 20) (.const (.int .i64 8)) 3, 4, none, true⟩])
  (.cond (.tmp 21) .skip (.exit 2)))
  (.seq (.block 3 (.seq (.region [⟨some 24, .move (.tmp 3), 27, none, true⟩, ⟨some 25, .binOp .and 27 (.tmp 24) (.const (.int .u32 1)) 27, 27, none, true⟩, ⟨some 6, .assign (.tmp 25), 27, none, true⟩])
  (.seq (.region [⟨some 26, .move (.tmp 3), 27, none, true⟩, ⟨some 27, .binOp .shr 27 (.tmp 26) (.const (.int .u64 1)) 46, 27, none, true⟩, ⟨some 3, .assign (.tmp 27), 27, none, true⟩])
  (.seq (.region [⟨some 28, .move (.tmp 6), 27, none, true⟩, ⟨some 29, .binOp .eql 27 (.tmp 28) (.const (.int .u32 1)) 27, 4, none, true⟩])
  (.cond (.tmp 29) (.region [⟨some 30, .move (.tmp 3), 27, none, true⟩, ⟨some 31, .binOp .xor 27 (.tmp 30) (.const (.int .u32 3988292384)) 27, 27, none, true⟩, ⟨some 3, .assign (.tmp 31), 27, none, true⟩]) .skip)))))
  (.region [⟨some 22, .move (.tmp 5), 3, none, true⟩, ⟨some 23, .binOp .add 3 (.tmp 22) (.const (.int .i64 1)) 3, 3, none, true⟩, ⟨some 5, .assign (.tmp 23), 3, none, true⟩]))))))))
  (.region [⟨some 11, .move (.tmp 4), 3, none, true⟩, ⟨some 12, .binOp .add 3 (.tmp 11) (.const (.int .i64 1)) 3, 3, none, true⟩, ⟨some 4, .assign (.tmp 12), 3, none, true⟩]))))))
  (.seq (.region [⟨some 32, .move (.tmp 3), 27, none, true⟩, ⟨some 33, .unOp .xor 27 (.tmp 32), 27, none, true⟩, ⟨some 2, .assign (.tmp 33), 27, none, true⟩])
  .ret)))
noncomputable def f12 : AFn := ⟨34, [.tmp 2], b12⟩
/-- novation/novationlaw4.fit -/
noncomputable def b13 : AC :=
  .seq (.region [⟨some 2, .assign (.const (.bool false)), 4, none, true⟩])
  (.seq (.seq (.region [⟨some 4, .move (.tmp 0), 30, none, true⟩, ⟨some 5, .call (⟨.builtin .len, #[.tmp 4], #[30]⟩), 3, none, true⟩, ⟨some 6, .binOp .gtr 3 (.tmp 5) (.const (.int .i64 20)) 3, 4, none, true⟩])
  (.cond (.tmp 6) (.seq (.region [⟨some 2, .assign (.const (.bool false)), 4, none, true⟩])
  .ret) .skip))
  (.seq (.seq (.region [⟨some 3, .assign (.const (.int .i64 0)), 3, none, true⟩])
  (.block 0 (.loop [true, false, false, true, false, false, false, false, false, false, false, false, false, false, false, false, false, false, false] (.seq (.seq (.region [⟨some 7, .move (.tmp 3), 3, none, true⟩, ⟨some 8, .move (.tmp 0), 30, none, true⟩, ⟨some 9, .call (⟨.builtin .len, #[.tmp 8], #[30]⟩), 3, none, true⟩, ⟨some 10, .binOp .lss 3 (.tmp 7) (.tmp 9) 3, 4, none, true⟩])
  (.cond (.tmp 10) .skip (.exit 0)))
  (.seq (.block 1 (.seq (.region [⟨some 13, .move (.tmp 0), 30, none, true⟩, ⟨some 14, .move (.tmp 3), 3, none, true⟩, ⟨some 15, .indexAddr 30 (.tmp 13) (.tmp 14), 0, none, true⟩, ⟨some 16, .load 22 (.tmp 15), 22, none, true⟩, ⟨some 17, .call (⟨.builtin .len, #[.tmp 16], #[22]⟩), 3, none, true⟩, ⟨some 18, .binOp .gtr 3 (.tmp 17) (.const (.int .i64 400)) 3, 4, none, true⟩])
  (.cond (.tmp 18) (.seq (.region [⟨some 2, .assign (.const (.bool false)), 4, none, true⟩])
  .ret) .skip)))
  (.region [⟨some 11, .move (.tmp 3), 3, none, true⟩, ⟨some 12, .binOp .add 3 (.tmp 11) (.const (.int .i64 1)) 3, 3, none, true⟩, ⟨some 3, .assign (.tmp 12), 3, none, true⟩]))))))
  (.seq (.region [⟨some 2, .assign (.const (.bool true)), 4, none, true⟩])
  .ret)))
noncomputable def f13 : AFn := ⟨19, [.tmp 2], b13⟩
/-- novation/novationlaw4.all -/
noncomputable def b14 : AC :=
  .seq (.region [⟨some 2, .assign (.const (.slice none 0 0)), 22, none, true⟩, ⟨some 3, .assign (.const (.bool false)), 4, none, true⟩])
  (.seq (.region [⟨some 4, .assign (.const (.slice none 0 0)), 22, none, true⟩])
  (.seq (.seq (.region [⟨some 5, .assign (.const (.int .i64 0)), 3, none, true⟩])
  (.block 0 (.loop [true, false, false, false, true, true, false, false, false, false, false, false, false, false, false, false, false, false, false, false, false, false, false, false, false, false, false, false] (.seq (.seq (.region [⟨some 8, .move (.tmp 5), 3, none, true⟩, ⟨some 9, .move (.tmp 0), 30, none, true⟩, ⟨some 10, .call (⟨.builtin .len, #[.tmp 9], #[30]⟩), 3, none, true⟩, ⟨some 11, .binOp .lss 3 (.tmp 8) (.tmp 10) 3, 4, none, true⟩])
  (.cond (.tmp 11) .skip (.exit 0)))
  (.seq (.block 1 (.seq (.region [⟨some 15, .move (.tmp 0), 30, none, true⟩, ⟨some 16, .move (.tmp 5), 3, none, true⟩, ⟨some 17, .indexAddr 30 (.tmp 15) (.tmp 16), 0, none, true⟩, ⟨some 18, .load 22 (.tmp 17), 22, none, true⟩, ⟨some 19, .call (⟨.value (.func 9), #[.tmp 18], #[22]⟩), 25, none, true⟩, ⟨some 14, .move (.tmp 19), 25, none, true⟩, ⟨some 20, .extract (.tmp 14) 0, 22, none, true⟩, ⟨some 21, .extract (.tmp 14) 1, 24, none, true⟩, ⟨some 6, .assign (.tmp 20), 22, none, true⟩, ⟨some 7, .assign (.tmp 21), 24, none, true⟩])
  (.seq (.seq (.region [⟨some 22, .move (.tmp 7), 24, none, true⟩, ⟨some 23, .binOp .neq 24 (.tmp 22) (.const (.int .i64 0)) 24, 4, none, true⟩])
  (.cond (.tmp 23) (.seq (.region [⟨some 2, .assign (.const (.slice none 0 0)), 22, none, true⟩, ⟨some 3, .assign (.const (.bool false)), 4, none, true⟩])
  .ret) .skip))
  (.region [⟨some 24, .move (.tmp 4), 22, none, true⟩, ⟨some 25, .move (.tmp 6), 22, none, true⟩, ⟨some 26, .call (⟨.builtin .append, #[.tmp 24, .tmp 25], #[22, 22]⟩), 22, none, true⟩, ⟨some 4, .assign (.tmp 26), 22, none, true⟩]))))
  (.region [⟨some 12, .move (.tmp 5), 3, none, true⟩, ⟨some 13, .binOp .add 3 (.tmp 12) (.const (.int .i64 1)) 3, 3, none, true⟩, ⟨some 5, .assign (.tmp 13), 3, none, true⟩]))))))
  (.seq (.region [⟨some 27, .move (.tmp 4), 22, none, true⟩, ⟨some 2, .assign (.tmp 27), 22, none, true⟩, ⟨some 3, .assign (.const (.bool true)), 4, none, true⟩])
  .ret)))
noncomputable def f14 : AFn := ⟨28, [.tmp 2, .tmp 3], b14⟩
noncomputable def as15_0 : AC :=
  .seq (.region [⟨some 13, .assign (.tmp 56), 3, none, true⟩])
  (.region [⟨some 14, .assign (.tmp 57), 22, none, true⟩])
noncomputable def bd15_0 : AC :=
  .block 1 (.seq (.seq (.draw (drawOf T.c15 10) [0, 1, 2, 3, 4, 5, 6, 7, 8, 9, 10, 11, 12, 13, 14, 15, 16, 17, 18, 19, 20, 21] [[], [], [1], [0, 1, 2], [0, 1, 2, 3], [0, 1, 2, 3, 4], [0, 1, 2, 3, 4], [0, 1, 2, 3, 4], [0, 1, 2, 3, 4, 6, 7], [0, 1, 2, 3, 4, 6, 7, 8], [0, 1, 2, 3, 4, 5, 6, 7, 8, 9], [0, 1, 2, 3, 4, 5, 6, 7, 8, 9, 10], [0, 1, 2, 3, 4, 5, 6, 7, 8, 9, 10, 11], [0, 1, 2, 3, 4, 5, 6, 7, 8, 9, 10, 11, 12], [0, 1, 2, 3, 4, 5, 6, 7, 8, 9, 10, 11, 12, 13], [0, 1, 2, 3, 4, 5, 6, 7, 8, 9, 10, 11, 12], [0, 1, 2, 3, 4, 5, 6, 7, 8, 9, 10, 11, 12], [0, 1, 2, 3, 4, 5, 6, 7, 8, 9, 10, 11, 12, 15, 16], [0, 1, 2, 3, 4, 5, 6, 7, 8, 9, 10, 11, 12, 15, 16, 17], [0, 1, 2, 3, 4, 5, 6, 7, 8, 9, 10, 11, 12, 15, 16, 17, 18], [0, 1, 2, 3, 4, 5, 6, 7, 8, 9, 10, 11, 12, 13, 14, 15, 16, 17, 18, 19], [0, 1, 2, 3, 4, 5, 6, 7, 8, 9, 10, 11, 12, 13, 14, 15, 16, 17, 18, 19, 20]])
  (.cond (.tmp 79) (.seq (.region [⟨none, .store 4 (.tmp 2) (.const (.bool false)), 0, none, true⟩])
  .ret) .skip))
  (.region [⟨some 80, .load 3 (.tmp 12), 3, none, true⟩, ⟨some 81, .binOp .add 3 (.tmp 80) (.const (.int .i64 1)) 3, 3, none, true⟩, ⟨none, .store 3 (.tmp 12) (.tmp 81), 0, none, true⟩]))
/-- novation/novationlaw4.scans -/
noncomputable def b15 : AC :=
  .seq (.region [⟨some 2, .alloc 4, 0, none, true⟩])
  (.seq (.region [⟨some 16, .move (.tmp 0), 22, none, true⟩, ⟨some 17, .call (⟨.value (.func 18), #[.tmp 16], #[22]⟩), 42, none, true⟩, ⟨some 15, .move (.tmp 17), 42, none, true⟩, ⟨some 18, .extract (.tmp 15) 0, 22, none, true⟩, ⟨some 19, .extract (.tmp 15) 1, 3, none, true⟩, ⟨some 20, .extract (.tmp 15) 2, 24, none, true⟩, ⟨some 3, .assign (.tmp 18), 22, none, true⟩, ⟨some 4, .assign (.tmp 19), 3, none, true⟩, ⟨some 5, .assign (.tmp 20), 24, none, true⟩])
  (.seq (.region [⟨some 22, .move (.tmp 0), 22, none, true⟩, ⟨some 23, .call (⟨.value (.func 20), #[.tmp 22], #[22]⟩), 42, none, true⟩, ⟨some 21, .move (.tmp 23), 42, none, true⟩, ⟨some 24, .extract (.tmp 21) 0, 22, none, true⟩, ⟨some 25, .extract (.tmp 21) 1, 3, none, true⟩, ⟨some 26, .extract (.tmp 21) 2, 24, none, true⟩, ⟨some 6, .assign (.tmp 24), 22, none, true⟩, ⟨some 7, .assign (.tmp 25), 3, none, true⟩, ⟨some 8, .assign (.tmp 26), 24, none, true⟩])
  (.seq (.region [⟨some 28, .move (.tmp 0), 22, none, true⟩, ⟨some 29, .call (⟨.value (.func 21), #[.tmp 28], #[22]⟩), 49, none, true⟩, ⟨some 27, .move (.tmp 29), 49, none, true⟩, ⟨some 30, .extract (.tmp 27) 0, 48, none, true⟩, ⟨some 31, .extract (.tmp 27) 1, 30, none, true⟩, ⟨some 32, .extract (.tmp 27) 2, 3, none, true⟩, ⟨some 9, .alloc 48, 0, none, true⟩, ⟨some 10, .alloc 30, 0, none, true⟩, ⟨none, .store 48 (.tmp 9) (.tmp 30), 0, none, true⟩, ⟨none, .store 30 (.tmp 10) (.tmp 31), 0, none, true⟩, ⟨some 11, .assign (.tmp 32), 3, none, true⟩])
  (.seq (.seq (.region [⟨some 33, .move (.tmp 5), 24, none, true⟩, ⟨some 34, .move (.tmp 8), 24, none, true⟩, ⟨some 35, .binOp .neq 24 (.tmp 33) (.tmp 34) 24, 4, none, true⟩, ⟨some 36, .move (.tmp 35), 4, none, true⟩, ⟨some 37, .move (.tmp 4), 3, some (some 36), false⟩, ⟨some 38, .move (.tmp 7), 3, some (some 36), false⟩, ⟨some 39, .binOp .neq 3 (.tmp 37) (.tmp 38) 3, 4, some (some 36), false⟩, ⟨some 40, .pick (.tmp 36) (.const (.bool true)) (.tmp 39), 4, none, true⟩, ⟨some 41, .move (.tmp 40), 4, none, true⟩, ⟨some 42, .move (.tmp 3), 22, some (some 41), false⟩, ⟨some 43, .convert 22 9 (.tmp 42), 9, some (some 41), false⟩, ⟨some 44, .move (.tmp 6), 22, some (some 41), false⟩, ⟨some 45, .convert 22 9 (.tmp 44), 9, some (some 41), false⟩, ⟨some 46, .binOp .neq 9 (.tmp 43) (.tmp 45) 9, 4, some (some 41), false⟩, ⟨some 47, .pick (.tmp 41) (.const (.bool true)) (.tmp 46), 4, none, true⟩, ⟨some 48, .move (.tmp 47), 4, none, true⟩, ⟨some 49, .move (.tmp 0), 22, some (some 48), false⟩, ⟨some 50, .call (⟨.value (.func 16), #[.tmp 49], #[22]⟩), 3, some (some 48), false⟩, ⟨some 51, .move (.tmp 11), 3, some (some 48), false⟩, ⟨some 52, .binOp .neq 3 (.tmp 50) (.tmp 51) 3, 4, some (some 48), false⟩, ⟨some 53, .pick (.tmp 48) (.const (.bool true)) (.tmp 52), 4, none, true⟩])
  (.cond (.tmp 53) (.seq (.region [⟨none, .store 4 (.tmp 2) (.const (.bool false)), 0, none, true⟩])
  .ret) .skip))
  (.seq (.region [⟨some 12, .alloc 3, 0, none, true⟩, ⟨none, .store 3 (.tmp 12) (.const (.int .i64 0)), 0, none, true⟩])
  (.seq (.seq (.region [⟨some 54, .move (.tmp 0), 22, none, true⟩, ⟨some 55, .call (⟨.value (.func 17), #[.tmp 54], #[22]⟩), 38, none, true⟩])
  (.block 0 (.range (.tmp 55) #[56, 57] as15_0 bd15_0)))
  (.seq (.region [⟨some 82, .load 3 (.tmp 12), 3, none, true⟩, ⟨some 83, .load 30 (.tmp 10), 30, none, true⟩, ⟨some 84, .call (⟨.builtin .len, #[.tmp 83], #[30]⟩), 3, none, true⟩, ⟨some 85, .binOp .eql 3 (.tmp 82) (.tmp 84) 3, 4, none, true⟩, ⟨none, .store 4 (.tmp 2) (.tmp 85), 0, none, true⟩])
  .ret)))))))
noncomputable def f15 : AFn := ⟨86, [.cell 2 4], b15⟩
noncomputable def as16_0 : AC :=
  .seq (.region [⟨some 4, .assign (.tmp 8), 3, none, true⟩])
  (.region [⟨some 5, .assign (.tmp 9), 22, none, true⟩])
noncomputable def bd16_0 : AC :=
  .block 1 (.region [⟨some 10, .move (.tmp 4), 3, none, true⟩, ⟨some 11, .move (.tmp 5), 22, none, true⟩, ⟨some 12, .call (⟨.builtin .len, #[.tmp 11], #[22]⟩), 3, none, true⟩, ⟨some 13, .binOp .add 3 (.tmp 10) (.tmp 12) 3, 3, none, true⟩, ⟨some 14, .binOp .add 3 (.tmp 13) (.const (.int .i64 6)) 3, 3, none, true⟩, ⟨none, .store 3 (.tmp 3) (.tmp 14), 0, none, true⟩])
/-- novation/frame.Whole -/
noncomputable def b16 : AC :=
  .seq (.region [⟨some 2, .assign (.const (.int .i64 0)), 3, none, true⟩])
  (.seq (.region [⟨some 3, .alloc 3, 0, none, true⟩, ⟨none, .store 3 (.tmp 3) (.const (.int .i64 0)), 0, none, true⟩])
  (.seq (.seq (.region [⟨some 6, .move (.tmp 0), 22, none, true⟩, ⟨some 7, .call (⟨.value (.func 17), #[.tmp 6], #[22]⟩), 38, none, true⟩])
  (.block 0 (.range (.tmp 7) #[8, 9] as16_0 bd16_0)))
  (.seq (.region [⟨some 15, .load 3 (.tmp 3), 3, none, true⟩, ⟨some 2, .assign (.tmp 15), 3, none, true⟩])
  .ret)))
noncomputable def f16 : AFn := ⟨16, [.tmp 2], b16⟩
/-- novation/frame.Walk -/
noncomputable def b17 : AC :=
  .seq (.region [⟨some 2, .assign (.const .nilFunc), 38, none, true⟩])
  (.seq (.region [⟨some 4, .move (.tmp 0), 22, none, true⟩, ⟨some 5, .call (⟨.value (.func 22), #[.tmp 4], #[22]⟩), 22, none, true⟩, ⟨some 3, .alloc 22, 0, none, true⟩, ⟨none, .store 22 (.tmp 3) (.tmp 5), 0, none, true⟩])
  (.seq (.region [⟨some 6, .makeFunc (.func 23) #[] #[.tmp 3], 37, none, true⟩, ⟨some 2, .assign (.tmp 6), 38, none, true⟩])
  .ret))
noncomputable def f17 : AFn := ⟨7, [.tmp 2], b17⟩
/-- novation/frame.Next -/
noncomputable def b18 : AC :=
  .seq (.region [⟨some 2, .assign (.const (.slice none 0 0)), 22, none, true⟩, ⟨some 3, .assign (.const (.int .i64 0)), 3, none, true⟩, ⟨some 4, .assign (.const (.int .i64 0)), 24, none, true⟩])
  (.seq (.seq (.region [⟨some 6, .move (.tmp 0), 22, none, true⟩, ⟨some 7, .call (⟨.builtin .len, #[.tmp 6], #[22]⟩), 3, none, true⟩, ⟨some 8, .binOp .lss 3 (.tmp 7) (.const (.int .i64 2)) 3, 4, none, true⟩])
  (.cond (.tmp 8) (.seq (.region [⟨some 2, .assign (.const (.slice none 0 0)), 22, none, true⟩, ⟨some 3, .assign (.const (.int .i64 0)), 3, none, true⟩, ⟨some 4, .assign (.const (.int .i64 12)), 24, none, true⟩])
  .ret) .skip))
  (.seq (.draw (drawOf T.c18 3) [0, 1, 2, 3, 4, 5, 6, 7, 8, 9, 10] [[], [0], [0, 1], [0, 1, 2], [0, 1, 2, 3], [], [5], [5, 6], [5, 6, 7], [0, 1, 2, 3, 4, 5, 6, 7, 8], [0, 1, 2, 3, 4, 5, 6, 7, 8, 9]])
  (.seq (.block 0 (.seq (.region [⟨some 20, .move (.tmp 5), 3, none, true⟩, ⟨some 21, .binOp .gtr 3 (.tmp 20) (.const (.int .i64 400)) 3, 4, none, true⟩, ⟨some 19, .assign (.tmp 21), 4, none, true⟩])
  (.cond (.tmp 19) (.seq (.region [⟨some 2, .assign (.const (.slice none 0 0)), 22, none, true⟩, ⟨some 3, .assign (.const (.int .i64 0)), 3, none, true⟩, ⟨some 4, .assign (.const (.int .i64 13)), 24, none, true⟩])
  .ret) (.seq (.region [⟨some 23, .move (.tmp 0), 22, none, true⟩, ⟨some 24, .call (⟨.builtin .len, #[.tmp 23], #[22]⟩), 3, none, true⟩, ⟨some 25, .move (.tmp 5), 3, none, true⟩, ⟨some 26, .binOp .add 3 (.tmp 25) (.const (.int .i64 6)) 3, 3, none, true⟩, ⟨some 27, .binOp .lss 3 (.tmp 24) (.tmp 26) 3, 4, none, true⟩, ⟨some 22, .assign (.tmp 27), 4, none, true⟩])
  (.cond (.tmp 22) (.seq (.region [⟨some 2, .assign (.const (.slice none 0 0)), 22, none, true⟩, ⟨some 3, .assign (.const (.int .i64 0)), 3, none, true⟩, ⟨some 4, .assign (.const (.int .i64 12)), 24, none, true⟩])
  .ret) (.seq (.draw (drawOf T.c18 8) [0, 1, 2, 3, 4, 5, 6, 7, 8, 9, 10, 11, 12, 13, 14, 15] [[], [], [1], [], [3], [0, 1, 2, 3, 4], [0, 1, 2, 3, 4, 5], [], [], [8], [7, 8, 9], [7, 8, 9, 10], [7, 8, 9, 10, 11], [7, 8, 9, 10, 11, 12], [0, 1, 2, 3, 4, 5, 6, 7, 8, 9, 10, 11, 12, 13], [0, 1, 2, 3, 4, 5, 6, 7, 8, 9, 10, 11, 12, 13, 14]])
  (.cond (.tmp 28) (.seq (.region [⟨some 2, .assign (.const (.slice none 0 0)), 22, none, true⟩, ⟨some 3, .assign (.const (.int .i64 0)), 3, none, true⟩, ⟨some 4, .assign (.const (.int .i64 13)), 24, none, true⟩])
  .ret) .skip)))))))
  (.seq (.draw (drawOf T.c18 10) [0, 1, 2, 3, 4, 5, 7, 8, 6, 9, 10, 11] [[], [0], [], [], [3], [2, 3, 4], [0, 1, 2, 3, 4, 5], [], [7], [0, 1, 2, 3, 4, 5, 6], [0, 1, 2, 3, 4, 5, 6, 7, 8, 9], [0, 1, 2, 3, 4, 5, 6, 7, 8, 9, 10]])
  .ret))))
noncomputable def f18 : AFn := ⟨53, [.tmp 2, .tmp 3, .tmp 4], b18⟩
/-- novation/frame.lowFirst -/
noncomputable def b19 : AC :=
  .seq (.region [⟨some 2, .assign (.const (.slice none 0 0)), 22, none, true⟩])
  (.seq (.region [⟨some 3, .move (.tmp 0), 27, none, true⟩, ⟨some 4, .convert 27 5 (.tmp 3), 5, none, true⟩, ⟨some 5, .move (.tmp 0), 27, none, true⟩, ⟨some 6, .binOp .shr 27 (.tmp 5) (.const (.int .u64 8)) 46, 27, none, true⟩, ⟨some 7, .convert 27 5 (.tmp 6), 5, none, true⟩, ⟨some 8, .move (.tmp 0), 27, none, true⟩, ⟨some 9, .binOp .shr 27 (.tmp 8) (.const (.int .u64 16)) 46, 27, none, true⟩, ⟨some 10, .convert 27 5 (.tmp 9), 5, none, true⟩, ⟨some 11, .move (.tmp 0), 27, none, true⟩, ⟨some 12, .binOp .shr 27 (.tmp 11) (.const (.int .u64 24)) 46, 27, none, true⟩, ⟨some 13, .convert 27 5 (.tmp 12), 5, none, true⟩, ⟨some 14, .buildSlice 22 4 #[(0, .tmp 4), (1, .tmp 7), (2, .tmp 10), (3, .tmp 13)], 22, none, true⟩, ⟨some 2, .assign (.tmp 14), 22, none, true⟩])
  .ret)
noncomputable def f19 : AFn := ⟨15, [.tmp 2], b19⟩
/-- novation/novationref4.Next -/
noncomputable def b20 : AC :=
  .seq (.region [⟨some 2, .assign (.const (.slice none 0 0)), 22, none, true⟩, ⟨some 3, .assign (.const (.int .i64 0)), 3, none, true⟩, ⟨some 4, .assign (.const (.int .i64 0)), 24, none, true⟩])
  (.seq (.seq (.region [⟨some 8, .move (.tmp 0), 22, none, true⟩, ⟨some 9, .call (⟨.builtin .len, #[.tmp 8], #[22]⟩), 3, none, true⟩, ⟨some 10, .binOp .lss 3 (.tmp 9) (.const (.int .i64 2)) 3, 4, none, true⟩])
  (.cond (.tmp 10) (.seq (.region [⟨some 2, .assign (.const (.slice none 0 0)), 22, none, true⟩, ⟨some 3, .assign (.const (.int .i64 0)), 3, none, true⟩, ⟨some 4, .assign (.const (.int .i64 12)), 24, none, true⟩])
  .ret) .skip))
  (.seq (.draw (drawOf T.c20 3) [0, 1, 2, 3, 4, 5, 6, 7, 8, 9, 10] [[], [0], [0, 1], [0, 1, 2], [0, 1, 2, 3], [], [5], [5, 6], [5, 6, 7], [0, 1, 2, 3, 4, 5, 6, 7, 8], [0, 1, 2, 3, 4, 5, 6, 7, 8, 9]])
  (.seq (.seq (.region [⟨some 21, .move (.tmp 5), 3, none, true⟩, ⟨some 22, .binOp .gtr 3 (.tmp 21) (.const (.int .i64 400)) 3, 4, none, true⟩])
  (.cond (.tmp 22) (.seq (.region [⟨some 2, .assign (.const (.slice none 0 0)), 22, none, true⟩, ⟨some 3, .assign (.const (.int .i64 0)), 3, none, true⟩, ⟨some 4, .assign (.const (.int .i64 13)), 24, none, true⟩])
  .ret) .skip))
  (.seq (.seq (.region [⟨some 23, .move (.tmp 0), 22, none, true⟩, ⟨some 24, .call (⟨.builtin .len, #[.tmp 23], #[22]⟩), 3, none, true⟩, ⟨some 25, .move (.tmp 5), 3, none, true⟩, ⟨some 26, .binOp .add 3 (.tmp 25) (.const (.int .i64 6)) 3, 3, none, true⟩, ⟨some 27, .binOp .lss 3 (.tmp 24) (.tmp 26) 3, 4, none, true⟩])
  (.cond (.tmp 27) (.seq (.region [⟨some 2, .assign (.const (.slice none 0 0)), 22, none, true⟩, ⟨some 3, .assign (.const (.int .i64 0)), 3, none, true⟩, ⟨some 4, .assign (.const (.int .i64 12)), 24, none, true⟩])
  .ret) .skip))
  (.seq (.region [⟨some 28, .move (.tmp 0), 22, none, true⟩, ⟨some 29, .move (.tmp 5), 3, none, true⟩, ⟨some 30, .binOp .add 3 (.tmp 29) (.const (.int .i64 2)) 3, 3, none, true⟩, ⟨some 31, .slice 22 (.tmp 28) none (some (.tmp 30)) none, 22, none, true⟩, ⟨some 32, .call (⟨.value (.func 12), #[.tmp 31], #[22]⟩), 27, none, true⟩, ⟨some 6, .assign (.tmp 32), 27, none, true⟩])
  (.seq (.seq (.region [⟨some 7, .assign (.const (.int .i64 0)), 3, none, true⟩])
  (.block 0 (.loop [true, false, false, false, false, true, true, true, false, false, false, false, false, false, false, false, false, false, false, false, false, false, false, false, false, false, false, false, false, false, false, false, false, false, false, false, false, false, false, false, false, false, false, false, false, false, false, false, false, false, false, false, false, false, false, false, false, false, false] (.seq (.seq (.region [⟨some 33, .move (.tmp 7), 3, none, true⟩, ⟨some 34, .binOp .lss 3 (.tmp 33) (.const (.int .i64 4)) 3, 4, none, true⟩])
  (.cond (.tmp 34) .skip (.exit 0)))
  (.seq (.block 1 (.seq (.draw (drawOf T.c20 12) [0, 1, 2, 3, 4, 5, 6, 7, 8, 9, 10, 11, 12, 13] [[], [], [1], [], [1, 2, 3], [0, 1, 2, 3, 4], [0, 1, 2, 3, 4, 5], [], [], [8], [7, 8, 9], [7, 8, 9, 10], [7, 8, 9, 10, 11], [0, 1, 2, 3, 4, 5, 6, 7, 8, 9, 10, 11, 12]])
  (.cond (.tmp 50) (.seq (.region [⟨some 2, .assign (.const (.slice none 0 0)), 22, none, true⟩, ⟨some 3, .assign (.const (.int .i64 0)), 3, none, true⟩, ⟨some 4, .assign (.const (.int .i64 13)), 24, none, true⟩])
  .ret) .skip)))
  (.region [⟨some 35, .move (.tmp 7), 3, none, true⟩, ⟨some 36, .binOp .add 3 (.tmp 35) (.const (.int .i64 1)) 3, 3, none, true⟩, ⟨some 7, .assign (.tmp 36), 3, none, true⟩]))))))
  (.seq (.region [⟨some 51, .buildSlice 22 0 #[], 22, none, true⟩, ⟨some 52, .move (.tmp 0), 22, none, true⟩, ⟨some 53, .move (.tmp 5), 3, none, true⟩, ⟨some 54, .binOp .add 3 (.tmp 53) (.const (.int .i64 2)) 3, 3, none, true⟩, ⟨some 55, .slice 22 (.tmp 52) (some (.const (.int .i64 2))) (some (.tmp 54)) none, 22, none, true⟩, ⟨some 56, .call (⟨.builtin .append, #[.tmp 51, .tmp 55], #[22, 22]⟩), 22, none, true⟩, ⟨some 57, .move (.tmp 5), 3, none, true⟩, ⟨some 58, .binOp .add 3 (.tmp 57) (.const (.int .i64 6)) 3, 3, none, true⟩, ⟨some 2, .assign (.tmp 56), 22, none, true⟩, ⟨some 3, .assign (.tmp 58), 3, none, true⟩, ⟨some 4, .assign (.const (.int .i64 0)), 24, none, true⟩])
  .ret)))))))
noncomputable def f20 : AFn := ⟨59, [.tmp 2, .tmp 3, .tmp 4], b20⟩
/-- novation/novationref4.Records -/
noncomputable def b21 : AC :=
  .seq (.region [⟨some 2, .assign (.const (.slice none 0 0)), 48, none, true⟩, ⟨some 3, .assign (.const (.slice none 0 0)), 30, none, true⟩, ⟨some 4, .assign (.const (.int .i64 0)), 3, none, true⟩])
  (.seq (.region [⟨some 5, .assign (.const (.slice none 0 0)), 48, none, true⟩])
  (.seq (.region [⟨some 6, .assign (.const (.slice none 0 0)), 30, none, true⟩])
  (.seq (.region [⟨some 7, .assign (.const (.int .i64 0)), 3, none, true⟩])
  (.block 0 (.loop [true, false, false, false, false, true, true, true, false, false, false, false, false, false, false, false, false, false, false, false, false, false, false, false, false, false, false, false, false, false, false, false, false, false, false] (.block 1 (.seq (.region [⟨some 12, .move (.tmp 0), 22, none, true⟩, ⟨some 13, .move (.tmp 7), 3, none, true⟩, ⟨some 14, .slice 22 (.tmp 12) (some (.tmp 13)) none none, 22, none, true⟩, ⟨some 15, .call (⟨.value (.func 20), #[.tmp 14], #[22]⟩), 42, none, true⟩, ⟨some 11, .move (.tmp 15), 42, none, true⟩, ⟨some 16, .extract (.tmp 11) 0, 22, none, true⟩, ⟨some 17, .extract (.tmp 11) 1, 3, none, true⟩, ⟨some 18, .extract (.tmp 11) 2, 24, none, true⟩, ⟨some 8, .assign (.tmp 16), 22, none, true⟩, ⟨some 9, .assign (.tmp 17), 3, none, true⟩, ⟨some 10, .assign (.tmp 18), 24, none, true⟩])
  (.seq (.seq (.region [⟨some 19, .move (.tmp 10), 24, none, true⟩, ⟨some 20, .binOp .neq 24 (.tmp 19) (.const (.int .i64 0)) 24, 4, none, true⟩])
  (.cond (.tmp 20) (.seq (.region [⟨some 21, .move (.tmp 5), 48, none, true⟩, ⟨some 22, .move (.tmp 6), 30, none, true⟩, ⟨some 23, .move (.tmp 7), 3, none, true⟩, ⟨some 2, .assign (.tmp 21), 48, none, true⟩, ⟨some 3, .assign (.tmp 22), 30, none, true⟩, ⟨some 4, .assign (.tmp 23), 3, none, true⟩])
  .ret) .skip))
  (.seq (.region [⟨some 24, .move (.tmp 5), 48, none, true⟩, ⟨some 25, .move (.tmp 7), 3, none, true⟩, ⟨some 26, .buildSlice 48 1 #[(0, .tmp 25)], 48, none, true⟩, ⟨some 27, .call (⟨.builtin .append, #[.tmp 24, .tmp 26], #[48, 48]⟩), 48, none, true⟩, ⟨some 28, .move (.tmp 6), 30, none, true⟩, ⟨some 29, .move (.tmp 8), 22, none, true⟩, ⟨some 30, .buildSlice 30 1 #[(0, .tmp 29)], 30, none, true⟩, ⟨some 31, .call (⟨.builtin .append, #[.tmp 28, .tmp 30], #[30, 30]⟩), 30, none, true⟩, ⟨some 5, .assign (.tmp 27), 48, none, true⟩, ⟨some 6, .assign (.tmp 31), 30, none, true⟩])
  (.region [⟨some 32, .move (.tmp 7), 3, none, true⟩, ⟨some 33, .move (.tmp 9), 3, none, true⟩, ⟨some 34, .binOp .add 3 (.tmp 32) (.tmp 33) 3, 3, none, true⟩, ⟨some 7, .assign (.tmp 34), 3, none, true⟩]))))))))))
noncomputable def f21 : AFn := ⟨35, [.tmp 2, .tmp 3, .tmp 4], b21⟩
/-- slices.Clone[[]byte,byte] -/
noncomputable def b22 : AC :=
  .seq (.region [⟨some 2, .assign (.const (.slice none 0 0)), 22, none, true⟩])
  (.seq (.seq (.region [⟨some 3, .move (.tmp 0), 22, none, true⟩, ⟨some 4, .binOp .eql 22 (.tmp 3) (.const (.slice none 0 0)) 22, 4, none, true⟩])
  (.cond (.tmp 4) (.seq (.region [⟨some 2, .assign (.const (.slice none 0 0)), 22, none, true⟩])
  .ret) .skip))
  (.seq (.region [⟨some 5, .buildSlice 22 0 #[], 22, none, true⟩, ⟨some 6, .move (.tmp 0), 22, none, true⟩, ⟨some 7, .call (⟨.builtin .append, #[.tmp 5, .tmp 6], #[22, 22]⟩), 22, none, true⟩, ⟨some 2, .assign (.tmp 7), 22, none, true⟩])
  .ret))
noncomputable def f22 : AFn := ⟨8, [.tmp 2], b22⟩
/-- novation/frame.Walk$1 -/
noncomputable def b23 : AC :=
  .seq (.region [⟨some 3, .assign (.const (.int .i64 0)), 3, none, true⟩])
  (.block 0 (.loop [true, true, false, true, false, false, false, false, false, false, false, false, false, false, false, false, false, false, false, false, false, false, false, false, false, false, false] (.block 1 (.seq (.region [⟨some 8, .load 22 (.tmp 1), 22, none, true⟩, ⟨some 9, .move (.tmp 3), 3, none, true⟩, ⟨some 10, .slice 22 (.tmp 8) (some (.tmp 9)) none none, 22, none, true⟩, ⟨some 11, .call (⟨.value (.func 18), #[.tmp 10], #[22]⟩), 42, none, true⟩, ⟨some 7, .move (.tmp 11), 42, none, true⟩, ⟨some 12, .extract (.tmp 7) 0, 22, none, true⟩, ⟨some 13, .extract (.tmp 7) 1, 3, none, true⟩, ⟨some 14, .extract (.tmp 7) 2, 24, none, true⟩, ⟨some 4, .assign (.tmp 12), 22, none, true⟩, ⟨some 5, .assign (.tmp 13), 3, none, true⟩, ⟨some 6, .assign (.tmp 14), 24, none, true⟩])
  (.seq (.seq (.region [⟨some 15, .move (.tmp 6), 24, none, true⟩, ⟨some 16, .binOp .neq 24 (.tmp 15) (.const (.int .i64 0)) 24, 4, none, true⟩, ⟨some 17, .move (.tmp 16), 4, none, true⟩, ⟨some 18, .move (.tmp 0), 52, some (some 17), false⟩, ⟨some 19, .move (.tmp 3), 3, some (some 17), false⟩, ⟨some 20, .move (.tmp 4), 22, some (some 17), false⟩, ⟨some 21, .call (⟨.value (.tmp 18), #[.tmp 19, .tmp 20], #[3, 22]⟩), 4, some (some 17), false⟩, ⟨some 22, .unOp .not 4 (.tmp 21), 4, some (some 17), false⟩, ⟨some 23, .pick (.tmp 17) (.const (.bool true)) (.tmp 22), 4, none, true⟩])
  (.cond (.tmp 23) .ret .skip))
  (.region [⟨some 24, .move (.tmp 3), 3, none, true⟩, ⟨some 25, .move (.tmp 5), 3, none, true⟩, ⟨some 26, .binOp .add 3 (.tmp 24) (.tmp 25) 3, 3, none, true⟩, ⟨some 3, .assign (.tmp 26), 3, none, true⟩]))))))
noncomputable def f23 : AFn := ⟨27, [], b23⟩
def tys : List (Nat × TI) := [(1, t1), (2, t2), (3, t3), (4, t4), (5, t5), (9, t9), (22, t22), (24, t24), (27, t27), (30, t30), (38, t38), (41, t41), (48, t48)]
noncomputable def fns : List (Nat × AFn) := [(3, f3), (4, f4), (5, f5), (6, f6), (7, f7), (8, f8), (9, f9), (10, f10), (11, f11), (12, f12), (13, f13), (14, f14), (15, f15), (16, f16), (17, f17), (18, f18), (19, f19), (20, f20), (21, f21), (22, f22), (23, f23)]
noncomputable def ap0 : AP := { ty := fun t => tys.lookup t, fn := fun f => fns.lookup f, prim := fun _ => none }
noncomputable def ap : AP := { ap0 with prim := knownPrim 8 }
theorem ty1 : ap.ty 1 = some t1 := by kernel_rfl
theorem ty2 : ap.ty 2 = some t2 := by kernel_rfl
theorem ty3 : ap.ty 3 = some t3 := by kernel_rfl
theorem ty4 : ap.ty 4 = some t4 := by kernel_rfl
theorem ty5 : ap.ty 5 = some t5 := by kernel_rfl
theorem ty9 : ap.ty 9 = some t9 := by kernel_rfl
theorem ty22 : ap.ty 22 = some t22 := by kernel_rfl
theorem ty24 : ap.ty 24 = some t24 := by kernel_rfl
theorem ty27 : ap.ty 27 = some t27 := by kernel_rfl
theorem ty30 : ap.ty 30 = some t30 := by kernel_rfl
theorem ty38 : ap.ty 38 = some t38 := by kernel_rfl
theorem ty41 : ap.ty 41 = some t41 := by kernel_rfl
theorem ty48 : ap.ty 48 = some t48 := by kernel_rfl
theorem fn3 : ap.fn 3 = some f3 := by kernel_rfl
theorem fn4 : ap.fn 4 = some f4 := by kernel_rfl
theorem fn5 : ap.fn 5 = some f5 := by kernel_rfl
theorem fn6 : ap.fn 6 = some f6 := by kernel_rfl
theorem fn7 : ap.fn 7 = some f7 := by kernel_rfl
theorem fn8 : ap.fn 8 = some f8 := by kernel_rfl
theorem fn9 : ap.fn 9 = some f9 := by kernel_rfl
theorem fn10 : ap.fn 10 = some f10 := by kernel_rfl
theorem fn11 : ap.fn 11 = some f11 := by kernel_rfl
theorem fn12 : ap.fn 12 = some f12 := by kernel_rfl
theorem fn13 : ap.fn 13 = some f13 := by kernel_rfl
theorem fn14 : ap.fn 14 = some f14 := by kernel_rfl
theorem fn15 : ap.fn 15 = some f15 := by kernel_rfl
theorem fn16 : ap.fn 16 = some f16 := by kernel_rfl
theorem fn17 : ap.fn 17 = some f17 := by kernel_rfl
theorem fn18 : ap.fn 18 = some f18 := by kernel_rfl
theorem fn19 : ap.fn 19 = some f19 := by kernel_rfl
theorem fn20 : ap.fn 20 = some f20 := by kernel_rfl
theorem fn21 : ap.fn 21 = some f21 := by kernel_rfl
theorem fn22 : ap.fn 22 = some f22 := by kernel_rfl
theorem fn23 : ap.fn 23 = some f23 := by kernel_rfl
theorem types : ∀ x ∈ tys, tiOf Try.prog x.1 = some x.2 := by
  simp only [tys, List.forall_mem_cons]
  exact ⟨by kernel_rfl, by kernel_rfl, by kernel_rfl, by kernel_rfl, by kernel_rfl, by kernel_rfl, by kernel_rfl, by kernel_rfl, by kernel_rfl, by kernel_rfl, by kernel_rfl, by kernel_rfl, by kernel_rfl, fun _ h => by cases h⟩
theorem funcs : ∀ x ∈ fns, FnOk Try.prog x.1 x.2 := by
  simp only [fns, List.forall_mem_cons]
  exact ⟨fnOk_of Try.func3 rfl (by decide +kernel) (by kernel_rfl) (by kernel_rfl) (by kernel_rfl), fnOk_of Try.func4 rfl (by decide +kernel) (by kernel_rfl) (by kernel_rfl) (by kernel_rfl), fnOk_of Try.func5 rfl (by decide +kernel) (by kernel_rfl) (by kernel_rfl) (by kernel_rfl), fnOk_of Try.func6 rfl (by decide +kernel) (by kernel_rfl) (by kernel_rfl) (by kernel_rfl), fnOk_of Try.func7 rfl (by decide +kernel) (by kernel_rfl) (by kernel_rfl) (by kernel_rfl), fnOk_of Try.func8 rfl (by decide +kernel) (by kernel_rfl) (by kernel_rfl) (by kernel_rfl), fnOk_of Try.func9 rfl (by decide +kernel) (by kernel_rfl) (by kernel_rfl) (by kernel_rfl), fnOk_of Try.func10 rfl (by decide +kernel) (by kernel_rfl) (by kernel_rfl) (by kernel_rfl), fnOk_of Try.func11 rfl (by decide +kernel) (by kernel_rfl) (by kernel_rfl) (by kernel_rfl), fnOk_of Try.func12 rfl (by decide +kernel) (by kernel_rfl) (by kernel_rfl) (by kernel_rfl), fnOk_of Try.func13 rfl (by decide +kernel) (by kernel_rfl) (by kernel_rfl) (by kernel_rfl), fnOk_of Try.func14 rfl (by decide +kernel) (by kernel_rfl) (by kernel_rfl) (by kernel_rfl), fnOk_of Try.func15 rfl (by decide +kernel) (by kernel_rfl) (by kernel_rfl) (by kernel_rfl), fnOk_of Try.func16 rfl (by decide +kernel) (by kernel_rfl) (by kernel_rfl) (by kernel_rfl), fnOk_of Try.func17 rfl (by decide +kernel) (by kernel_rfl) (by kernel_rfl) (by kernel_rfl), fnOk_of Try.func18 rfl (by decide +kernel) (by kernel_rfl) (by kernel_rfl) (by kernel_rfl), fnOk_of Try.func19 rfl (by decide +kernel) (by kernel_rfl) (by kernel_rfl) (by kernel_rfl), fnOk_of Try.func20 rfl (by decide +kernel) (by kernel_rfl) (by kernel_rfl) (by kernel_rfl), fnOk_of Try.func21 rfl (by decide +kernel) (by kernel_rfl) (by kernel_rfl) (by kernel_rfl), fnOk_of Try.func22 rfl (by decide +kernel) (by kernel_rfl) (by kernel_rfl) (by kernel_rfl), fnOk_of Try.func23 rfl (by decide +kernel) (by kernel_rfl) (by kernel_rfl) (by kernel_rfl), fun _ h => by cases h⟩
theorem agree0 : Agree Try.prog ap0 := agree_of (by kernel_rfl) types funcs
attribute [simp] ty1 t1 ty2 t2 ty3 t3 ty4 t4 ty5 t5 ty9 t9 ty22 t22 ty24 t24 ty27 t27 ty30 t30 ty38 t38 ty41 t41 ty48 t48
end Go.Proofs.Ytinehdoenhodoaa.T
