import Derived.Test.YtobfodegdbfhdaaGR122
import Derived.Test.YtobfodegdbfhdaaProg
import Derived.KernelRfl
import Derived.Laws.BitsLemmas
import Derived.Laws.Bits64b
import Derived.WalkKit
section
/-! The tables of the abstract reading. Written by wip/ab/abgen.py (an own program) out of the loaded program. -/
set_option linter.unusedVariables false
set_option maxRecDepth 100000
namespace Go.Proofs.Ytobfodegdbfhdaa.T
open Go Go.Ab
noncomputable def c3 : Code := bodyOf Try.f3
noncomputable def c4 : Code := bodyOf Try.f4
noncomputable def c5 : Code := bodyOf Try.f5
noncomputable def c6 : Code := bodyOf Try.f6
noncomputable def c7 : Code := bodyOf Try.f7
noncomputable def c8 : Code := bodyOf Try.f8
noncomputable def c9 : Code := bodyOf Try.f9
noncomputable def c10 : Code := bodyOf Try.f10
noncomputable def c11 : Code := bodyOf Try.f11
noncomputable def c12 : Code := bodyOf Try.f12
noncomputable def c13 : Code := bodyOf Try.f13
noncomputable def c14 : Code := bodyOf Try.f14
noncomputable def c15 : Code := bodyOf Try.f15
noncomputable def c16 : Code := bodyOf Try.f16
noncomputable def c17 : Code := bodyOf Try.f17
noncomputable def c18 : Code := bodyOf Try.f18
noncomputable def c19 : Code := bodyOf Try.f19
noncomputable def c20 : Code := bodyOf Try.f20
noncomputable def c21 : Code := bodyOf Try.f21
noncomputable def c22 : Code := bodyOf Try.f22
noncomputable def c23 : Code := bodyOf Try.f23
noncomputable def c24 : Code := bodyOf Try.f24
noncomputable def c25 : Code := bodyOf Try.f25
noncomputable def c26 : Code := bodyOf Try.f26
noncomputable def c27 : Code := bodyOf Try.f27
noncomputable def c28 : Code := bodyOf Try.f28
noncomputable def c29 : Code := bodyOf Try.f29
noncomputable def c30 : Code := bodyOf Try.f30
noncomputable def c31 : Code := bodyOf Try.f31
noncomputable def c32 : Code := bodyOf Try.f32
noncomputable def c33 : Code := bodyOf Try.f33
noncomputable def c34 : Code := bodyOf Try.f34
noncomputable def c35 : Code := bodyOf Try.f35
noncomputable def c36 : Code := bodyOf Try.f36
noncomputable def c37 : Code := bodyOf Try.f37
noncomputable def c38 : Code := bodyOf Try.f38
noncomputable def c39 : Code := bodyOf Try.f39
noncomputable def c40 : Code := bodyOf Try.f40
noncomputable def c41 : Code := bodyOf Try.f41
noncomputable def c43 : Code := bodyOf Try.f43
noncomputable def c45 : Code := bodyOf Try.f45
noncomputable def c46 : Code := bodyOf Try.f46
noncomputable def c47 : Code := bodyOf Try.f47
noncomputable def c48 : Code := bodyOf Try.f48
noncomputable def c49 : Code := bodyOf Try.f49
def t1 : TI := ⟨1, 8, [.nilFunc], .func⟩
def t2 : TI := ⟨1, 8, [.int .i64 0], .int .i64⟩
def t3 : TI := ⟨1, 8, [.int .i64 0], .int .i64⟩
def t4 : TI := ⟨1, 1, [.bool false], .bool⟩
def t22 : TI := ⟨1, 24, [.slice none 0 (some 0) 0], .slice 39⟩
def t23 : TI := ⟨1, 24, [.slice none 0 (some 0) 0], .slice 25⟩
def t25 : TI := ⟨4, 32, [.int .i64 0, .int .i64 0, .int .i64 0, .int .i64 0], .struct [(0, 3), (1, 3), (2, 3), (3, 2)]⟩
def t28 : TI := ⟨1, 8, [.int .i64 0], .int .i64⟩
def t39 : TI := ⟨2, 16, [.int .i64 0, .int .i64 0], .struct [(0, 3), (1, 3)]⟩
def t42 : TI := ⟨1, 24, [.slice none 0 (some 0) 0], .slice 3⟩
def t57 : TI := ⟨13, 13, [.bool false, .bool false, .bool false, .bool false, .bool false, .bool false, .bool false, .bool false, .bool false, .bool false, .bool false, .bool false, .bool false], .array 13 4⟩
/-- novation/novationlaw11.RollAll -/
noncomputable def b3 : AC :=
  .seq (.region [⟨some 8, .box 25 (.tmp 2), 0, none, true⟩, ⟨some 12, .assign (.const (.bool false)), 4, none, true⟩])
  (.seq (.seq (.region [⟨some 13, .call (⟨.value (.func 4), #[], #[]⟩), 4, none, true⟩, ⟨some 14, .unOp .not 4 (.tmp 13), 4, none, true⟩])
  (.cond (.tmp 14) (.seq (.region [⟨some 12, .assign (.const (.bool false)), 4, none, true⟩])
  .ret) .skip))
  (.seq (.seq (.region [⟨some 15, .move (.tmp 0), 22, none, true⟩, ⟨some 16, .call (⟨.builtin .len, #[.tmp 15], #[22]⟩), 3, none, true⟩, ⟨some 17, .binOp .gtr 3 (.tmp 16) (.const (.int .i64 30)) 3, 4, none, true⟩, ⟨some 18, .move (.tmp 17), 4, none, true⟩, ⟨some 19, .move (.tmp 1), 23, some (some 18), false⟩, ⟨some 20, .call (⟨.builtin .len, #[.tmp 19], #[23]⟩), 3, some (some 18), false⟩, ⟨some 21, .binOp .gtr 3 (.tmp 20) (.const (.int .i64 40)) 3, 4, some (some 18), false⟩, ⟨some 22, .pick (.tmp 18) (.const (.bool true)) (.tmp 21), 4, none, true⟩])
  (.cond (.tmp 22) (.seq (.region [⟨some 12, .assign (.const (.bool true)), 4, none, true⟩])
  .ret) .skip))
  (.seq (.region [⟨some 23, .move (.tmp 0), 22, none, true⟩, ⟨some 24, .move (.tmp 1), 23, none, true⟩, ⟨some 25, .load 25 (.tmp 8), 25, none, true⟩, ⟨some 26, .move (.tmp 3), 3, none, true⟩, ⟨some 27, .move (.tmp 4), 3, none, true⟩, ⟨some 28, .move (.tmp 5), 2, none, true⟩, ⟨some 29, .call (⟨.value (.func 5), #[.tmp 23, .tmp 24, .tmp 25, .tmp 26, .tmp 27, .tmp 28], #[22, 23, 25, 3, 3, 2]⟩), 4, none, true⟩, ⟨some 12, .assign (.tmp 29), 4, none, true⟩])
  .ret)))
noncomputable def f3 : AFn := ⟨30, [.tmp 12], b3⟩
/-- novation/novationlaw11.known -/
noncomputable def b4 : AC :=
  .seq (.region [⟨some 0, .assign (.const (.bool false)), 4, none, true⟩])
  (.seq (.region [⟨some 18, .call (⟨.value (.func 6), #[.const (.slice none 0 0), .const (.int .i64 3)], #[22, 3]⟩), 29, none, true⟩, ⟨some 17, .move (.tmp 18), 29, none, true⟩, ⟨some 19, .extract (.tmp 17) 0, 22, none, true⟩, ⟨some 20, .extract (.tmp 17) 1, 28, none, true⟩, ⟨some 1, .assign (.tmp 19), 22, none, true⟩, ⟨some 2, .assign (.tmp 20), 28, none, true⟩])
  (.seq (.region [⟨some 22, .move (.tmp 1), 22, none, true⟩, ⟨some 23, .call (⟨.value (.func 6), #[.tmp 22, .const (.int .i64 1)], #[22, 3]⟩), 29, none, true⟩, ⟨some 21, .move (.tmp 23), 29, none, true⟩, ⟨some 24, .extract (.tmp 21) 0, 22, none, true⟩, ⟨some 25, .extract (.tmp 21) 1, 28, none, true⟩, ⟨some 3, .assign (.tmp 24), 22, none, true⟩, ⟨some 4, .assign (.tmp 25), 28, none, true⟩])
  (.seq (.region [⟨some 27, .move (.tmp 3), 22, none, true⟩, ⟨some 28, .build 25 #[(0, .const (.int .i64 5)), (1, .const (.int .i64 3)), (2, .const (.int .i64 1))], 25, none, true⟩, ⟨some 29, .call (⟨.value (.func 7), #[.tmp 27, .const (.slice none 0 0), .tmp 28], #[22, 23, 25]⟩), 31, none, true⟩, ⟨some 26, .move (.tmp 29), 31, none, true⟩, ⟨some 30, .extract (.tmp 26) 0, 23, none, true⟩, ⟨some 31, .extract (.tmp 26) 1, 28, none, true⟩, ⟨some 5, .assign (.tmp 30), 23, none, true⟩, ⟨some 6, .assign (.tmp 31), 28, none, true⟩])
  (.seq (.region [⟨some 33, .move (.tmp 3), 22, none, true⟩, ⟨some 34, .move (.tmp 5), 23, none, true⟩, ⟨some 35, .build 25 #[(0, .const (.int .i64 2)), (1, .const (.int .i64 3)), (2, .const (.int .i64 2))], 25, none, true⟩, ⟨some 36, .call (⟨.value (.func 7), #[.tmp 33, .tmp 34, .tmp 35], #[22, 23, 25]⟩), 31, none, true⟩, ⟨some 32, .move (.tmp 36), 31, none, true⟩, ⟨some 37, .extract (.tmp 32) 0, 23, none, true⟩, ⟨some 38, .extract (.tmp 32) 1, 28, none, true⟩, ⟨some 7, .assign (.tmp 37), 23, none, true⟩, ⟨some 8, .assign (.tmp 38), 28, none, true⟩])
  (.seq (.region [⟨some 40, .move (.tmp 7), 23, none, true⟩, ⟨some 41, .call (⟨.value (.func 8), #[.tmp 40, .const (.int .i64 5), .const (.int .i64 9)], #[23, 3, 2]⟩), 31, none, true⟩, ⟨some 39, .move (.tmp 41), 31, none, true⟩, ⟨some 42, .extract (.tmp 39) 0, 23, none, true⟩, ⟨some 43, .extract (.tmp 39) 1, 28, none, true⟩, ⟨some 9, .assign (.tmp 42), 23, none, true⟩, ⟨some 10, .assign (.tmp 43), 28, none, true⟩])
  (.seq (.region [⟨some 45, .move (.tmp 3), 22, none, true⟩, ⟨some 46, .move (.tmp 9), 23, none, true⟩, ⟨some 47, .call (⟨.value (.func 9), #[.tmp 45, .tmp 46, .const (.int .i64 2), .const (.int .i64 1)], #[22, 23, 3, 3]⟩), 31, none, true⟩, ⟨some 44, .move (.tmp 47), 31, none, true⟩, ⟨some 48, .extract (.tmp 44) 0, 23, none, true⟩, ⟨some 49, .extract (.tmp 44) 1, 28, none, true⟩, ⟨some 11, .assign (.tmp 48), 23, none, true⟩, ⟨some 12, .assign (.tmp 49), 28, none, true⟩])
  (.seq (.region [⟨some 51, .move (.tmp 3), 22, none, true⟩, ⟨some 52, .call (⟨.value (.func 10), #[.tmp 51, .const (.int .i64 1), .const (.int .i64 11)], #[22, 3, 3]⟩), 29, none, true⟩, ⟨some 50, .move (.tmp 52), 29, none, true⟩, ⟨some 53, .extract (.tmp 50) 0, 22, none, true⟩, ⟨some 54, .extract (.tmp 50) 1, 28, none, true⟩, ⟨some 13, .assign (.tmp 53), 22, none, true⟩, ⟨some 14, .assign (.tmp 54), 28, none, true⟩])
  (.seq (.region [⟨some 56, .move (.tmp 11), 23, none, true⟩, ⟨some 57, .call (⟨.value (.func 11), #[.tmp 56, .const (.int .i64 2)], #[23, 3]⟩), 36, none, true⟩, ⟨some 55, .move (.tmp 57), 36, none, true⟩, ⟨some 58, .extract (.tmp 55) 0, 25, none, true⟩, ⟨some 59, .extract (.tmp 55) 1, 4, none, true⟩, ⟨some 15, .alloc 25, 0, none, true⟩, ⟨none, .store 25 (.tmp 15) (.tmp 58), 0, none, true⟩, ⟨some 16, .assign (.tmp 59), 4, none, true⟩])
  (.seq (.region [⟨some 60, .move (.tmp 2), 28, none, true⟩, ⟨some 61, .binOp .eql 28 (.tmp 60) (.const (.int .i64 0)) 28, 4, none, true⟩, ⟨some 62, .move (.tmp 61), 4, none, true⟩, ⟨some 63, .move (.tmp 4), 28, some (some 62), true⟩, ⟨some 64, .binOp .eql 28 (.tmp 63) (.const (.int .i64 0)) 28, 4, some (some 62), true⟩, ⟨some 65, .pick (.tmp 62) (.tmp 64) (.const (.bool false)), 4, none, true⟩, ⟨some 66, .move (.tmp 65), 4, none, true⟩, ⟨some 67, .move (.tmp 6), 28, some (some 66), true⟩, ⟨some 68, .binOp .eql 28 (.tmp 67) (.const (.int .i64 0)) 28, 4, some (some 66), true⟩, ⟨some 69, .pick (.tmp 66) (.tmp 68) (.const (.bool false)), 4, none, true⟩, ⟨some 70, .move (.tmp 69), 4, none, true⟩, ⟨some 71, .move (.tmp 8), 28, some (some 70), true⟩, ⟨some 72, .binOp .eql 28 (.tmp 71) (.const (.int .i64 0)) 28, 4, some (some 70), true⟩, ⟨some 73, .pick (.tmp 70) (.tmp 72) (.const (.bool false)), 4, none, true⟩, ⟨some 74, .move (.tmp 73), 4, none, true⟩, ⟨some 75, .move (.tmp 10), 28, some (some 74), true⟩, ⟨some 76, .binOp .eql 28 (.tmp 75) (.const (.int .i64 0)) 28, 4, some (some 74), true⟩, ⟨some 77, .pick (.tmp 74) (.tmp 76) (.const (.bool false)), 4, none, true⟩, ⟨some 78, .move (.tmp 77), 4, none, true⟩, ⟨some 79, .move (.tmp 12), 28, some (some 78), true⟩, ⟨some 80, .binOp .eql 28 (.tmp 79) (.const (.int .i64 0)) 28, 4, some (some 78), true⟩, ⟨some 81, .pick (.tmp 78) (.tmp 80) (.const (.bool false)), 4, none, true⟩, ⟨some 82, .move (.tmp 81), 4, none, true⟩, ⟨some 83, .move (.tmp 14), 28, some (some 82), true⟩, ⟨some 84, .binOp .eql 28 (.tmp 83) (.const (.int .i64 0)) 28, 4, some (some 82), true⟩, ⟨some 85, .pick (.tmp 82) (.tmp 84) (.const (.bool false)), 4, none, true⟩, ⟨some 86, .move (.tmp 85), 4, none, true⟩, ⟨some 87, .move (.tmp 3), 22, some (some 86), true⟩, ⟨some 88, .call (⟨.builtin .len, #[.tmp 87], #[22]⟩), 3, some (some 86), true⟩, ⟨some 89, .binOp .eql 3 (.tmp 88) (.const (.int .i64 2)) 3, 4, some (some 86), true⟩, ⟨some 90, .pick (.tmp 86) (.tmp 89) (.const (.bool false)), 4, none, true⟩, ⟨some 91, .move (.tmp 90), 4, none, true⟩, ⟨some 92, .move (.tmp 3), 22, some (some 91), true⟩, ⟨some 93, .indexAddr 22 (.tmp 92) (.const (.int .i64 0)), 0, some (some 91), true⟩, ⟨some 94, .fieldAddr 39 (.tmp 93) 0, 0, some (some 91), true⟩, ⟨some 95, .load 3 (.tmp 94), 3, some (some 91), true⟩, ⟨some 96, .binOp .eql 3 (.tmp 95) (.const (.int .i64 1)) 3, 4, some (some 91), true⟩, ⟨some 97, .pick (.tmp 91) (.tmp 96) (.const (.bool false)), 4, none, true⟩, ⟨some 98, .move (.tmp 97), 4, none, true⟩, ⟨some 99, .move (.tmp 9), 23, some (some 98), true⟩, ⟨some 100, .call (⟨.value (.func 12), #[.tmp 99, .const (.int .i64 3)], #[23, 3]⟩), 3, some (some 98), true⟩, ⟨some 101, .binOp .eql 3 (.tmp 100) (.const (.int .i64 5)) 3, 4, some (some 98), true⟩, ⟨some 102, .pick (.tmp 98) (.tmp 101) (.const (.bool false)), 4, none, true⟩, ⟨some 103, .move (.tmp 102), 4, none, true⟩, ⟨some 104, .move (.tmp 16), 4, some (some 103), true⟩, ⟨some 105, .pick (.tmp 103) (.tmp 104) (.const (.bool false)), 4, none, true⟩, ⟨some 106, .move (.tmp 105), 4, none, true⟩, ⟨some 107, .fieldAddr 25 (.tmp 15) 1, 0, some (some 106), true⟩, ⟨some 108, .load 3 (.tmp 107), 3, some (some 106), true⟩, ⟨some 109, .binOp .eql 3 (.tmp 108) (.const (.int .i64 1)) 3, 4, some (some 106), true⟩, ⟨some 110, .pick (.tmp 106) (.tmp 109) (.const (.bool false)), 4, none, true⟩, ⟨some 111, .move (.tmp 110), 4, none, true⟩, ⟨some 112, .move (.tmp 11), 23, some (some 111), true⟩, ⟨some 113, .call (⟨.value (.func 14), #[.tmp 112, .const (.int .i64 3)], #[23, 3]⟩), 42, some (some 111), true⟩, ⟨some 114, .buildSlice 42 1 #[(0, .const (.int .i64 5))], 42, some (some 111), true⟩, ⟨some 115, .call (⟨.value (.func 13), #[.tmp 113, .tmp 114], #[42, 42]⟩), 4, some (some 111), true⟩, ⟨some 116, .pick (.tmp 111) (.tmp 115) (.const (.bool false)), 4, none, true⟩, ⟨some 117, .move (.tmp 116), 4, none, true⟩, ⟨some 118, .move (.tmp 13), 22, some (some 117), true⟩, ⟨some 119, .call (⟨.value (.func 15), #[.tmp 118, .const (.int .i64 1)], #[22, 3]⟩), 3, some (some 117), true⟩, ⟨some 120, .binOp .eql 3 (.tmp 119) (.const (.int .i64 2)) 3, 4, some (some 117), true⟩, ⟨some 121, .pick (.tmp 117) (.tmp 120) (.const (.bool false)), 4, none, true⟩, ⟨some 122, .move (.tmp 121), 4, none, true⟩, ⟨some 123, .move (.tmp 3), 22, some (some 122), true⟩, ⟨some 124, .move (.tmp 11), 23, some (some 122), true⟩, ⟨some 125, .call (⟨.value (.func 16), #[.tmp 123, .tmp 124], #[22, 23]⟩), 4, some (some 122), true⟩, ⟨some 126, .pick (.tmp 122) (.tmp 125) (.const (.bool false)), 4, none, true⟩, ⟨some 127, .move (.tmp 126), 4, none, true⟩, ⟨some 128, .move (.tmp 3), 22, some (some 127), true⟩, ⟨some 129, .call (⟨.value (.func 17), #[.tmp 128], #[22]⟩), 4, some (some 127), true⟩, ⟨some 130, .pick (.tmp 127) (.tmp 129) (.const (.bool false)), 4, none, true⟩, ⟨some 131, .move (.tmp 130), 4, none, true⟩, ⟨some 132, .move (.tmp 11), 23, some (some 131), true⟩, ⟨some 133, .call (⟨.value (.func 18), #[.tmp 132], #[23]⟩), 4, some (some 131), true⟩, ⟨some 134, .pick (.tmp 131) (.tmp 133) (.const (.bool false)), 4, none, true⟩, ⟨some 0, .assign (.tmp 134), 4, none, true⟩])
  .ret)))))))))
noncomputable def f4 : AFn := ⟨135, [.tmp 0], b4⟩
/-- novation/novationlaw11.told -/
noncomputable def b5 : AC :=
  .seq (.region [⟨some 8, .box 25 (.tmp 2), 0, none, true⟩, ⟨some 12, .assign (.const (.bool false)), 4, none, true⟩])
  (.seq (.region [⟨some 38, .move (.tmp 0), 22, none, true⟩, ⟨some 39, .move (.tmp 3), 3, none, true⟩, ⟨some 40, .call (⟨.value (.func 6), #[.tmp 38, .tmp 39], #[22, 3]⟩), 29, none, true⟩, ⟨some 37, .move (.tmp 40), 29, none, true⟩, ⟨some 41, .extract (.tmp 37) 0, 22, none, true⟩, ⟨some 42, .extract (.tmp 37) 1, 28, none, true⟩, ⟨some 13, .assign (.tmp 41), 22, none, true⟩, ⟨some 14, .assign (.tmp 42), 28, none, true⟩])
  (.seq (.region [⟨some 44, .move (.tmp 0), 22, none, true⟩, ⟨some 45, .move (.tmp 3), 3, none, true⟩, ⟨some 46, .call (⟨.value (.func 19), #[.tmp 44, .tmp 45], #[22, 3]⟩), 29, none, true⟩, ⟨some 43, .move (.tmp 46), 29, none, true⟩, ⟨some 47, .extract (.tmp 43) 0, 22, none, true⟩, ⟨some 48, .extract (.tmp 43) 1, 28, none, true⟩, ⟨some 15, .assign (.tmp 47), 22, none, true⟩, ⟨some 16, .assign (.tmp 48), 28, none, true⟩])
  (.seq (.region [⟨some 50, .move (.tmp 0), 22, none, true⟩, ⟨some 51, .move (.tmp 3), 3, none, true⟩, ⟨some 52, .move (.tmp 4), 3, none, true⟩, ⟨some 53, .call (⟨.value (.func 10), #[.tmp 50, .tmp 51, .tmp 52], #[22, 3, 3]⟩), 29, none, true⟩, ⟨some 49, .move (.tmp 53), 29, none, true⟩, ⟨some 54, .extract (.tmp 49) 0, 22, none, true⟩, ⟨some 55, .extract (.tmp 49) 1, 28, none, true⟩, ⟨some 17, .assign (.tmp 54), 22, none, true⟩, ⟨some 18, .assign (.tmp 55), 28, none, true⟩])
  (.seq (.region [⟨some 57, .move (.tmp 0), 22, none, true⟩, ⟨some 58, .move (.tmp 3), 3, none, true⟩, ⟨some 59, .move (.tmp 4), 3, none, true⟩, ⟨some 60, .call (⟨.value (.func 20), #[.tmp 57, .tmp 58, .tmp 59], #[22, 3, 3]⟩), 29, none, true⟩, ⟨some 56, .move (.tmp 60), 29, none, true⟩, ⟨some 61, .extract (.tmp 56) 0, 22, none, true⟩, ⟨some 62, .extract (.tmp 56) 1, 28, none, true⟩, ⟨some 19, .assign (.tmp 61), 22, none, true⟩, ⟨some 20, .assign (.tmp 62), 28, none, true⟩])
  (.seq (.region [⟨some 64, .move (.tmp 0), 22, none, true⟩, ⟨some 65, .move (.tmp 1), 23, none, true⟩, ⟨some 66, .load 25 (.tmp 8), 25, none, true⟩, ⟨some 67, .call (⟨.value (.func 7), #[.tmp 64, .tmp 65, .tmp 66], #[22, 23, 25]⟩), 31, none, true⟩, ⟨some 63, .move (.tmp 67), 31, none, true⟩, ⟨some 68, .extract (.tmp 63) 0, 23, none, true⟩, ⟨some 69, .extract (.tmp 63) 1, 28, none, true⟩, ⟨some 21, .assign (.tmp 68), 23, none, true⟩, ⟨some 22, .assign (.tmp 69), 28, none, true⟩])
  (.seq (.region [⟨some 71, .move (.tmp 0), 22, none, true⟩, ⟨some 72, .move (.tmp 1), 23, none, true⟩, ⟨some 73, .load 25 (.tmp 8), 25, none, true⟩, ⟨some 74, .call (⟨.value (.func 21), #[.tmp 71, .tmp 72, .tmp 73], #[22, 23, 25]⟩), 31, none, true⟩, ⟨some 70, .move (.tmp 74), 31, none, true⟩, ⟨some 75, .extract (.tmp 70) 0, 23, none, true⟩, ⟨some 76, .extract (.tmp 70) 1, 28, none, true⟩, ⟨some 23, .assign (.tmp 75), 23, none, true⟩, ⟨some 24, .assign (.tmp 76), 28, none, true⟩])
  (.seq (.region [⟨some 78, .move (.tmp 1), 23, none, true⟩, ⟨some 79, .move (.tmp 3), 3, none, true⟩, ⟨some 80, .move (.tmp 5), 2, none, true⟩, ⟨some 81, .call (⟨.value (.func 8), #[.tmp 78, .tmp 79, .tmp 80], #[23, 3, 2]⟩), 31, none, true⟩, ⟨some 77, .move (.tmp 81), 31, none, true⟩, ⟨some 82, .extract (.tmp 77) 0, 23, none, true⟩, ⟨some 83, .extract (.tmp 77) 1, 28, none, true⟩, ⟨some 25, .assign (.tmp 82), 23, none, true⟩, ⟨some 26, .assign (.tmp 83), 28, none, true⟩])
  (.seq (.region [⟨some 85, .move (.tmp 1), 23, none, true⟩, ⟨some 86, .move (.tmp 3), 3, none, true⟩, ⟨some 87, .move (.tmp 5), 2, none, true⟩, ⟨some 88, .call (⟨.value (.func 22), #[.tmp 85, .tmp 86, .tmp 87], #[23, 3, 2]⟩), 31, none, true⟩, ⟨some 84, .move (.tmp 88), 31, none, true⟩, ⟨some 89, .extract (.tmp 84) 0, 23, none, true⟩, ⟨some 90, .extract (.tmp 84) 1, 28, none, true⟩, ⟨some 27, .assign (.tmp 89), 23, none, true⟩, ⟨some 28, .assign (.tmp 90), 28, none, true⟩])
  (.seq (.region [⟨some 92, .move (.tmp 0), 22, none, true⟩, ⟨some 93, .move (.tmp 1), 23, none, true⟩, ⟨some 94, .move (.tmp 3), 3, none, true⟩, ⟨some 95, .move (.tmp 4), 3, none, true⟩, ⟨some 96, .call (⟨.value (.func 9), #[.tmp 92, .tmp 93, .tmp 94, .tmp 95], #[22, 23, 3, 3]⟩), 31, none, true⟩, ⟨some 91, .move (.tmp 96), 31, none, true⟩, ⟨some 97, .extract (.tmp 91) 0, 23, none, true⟩, ⟨some 98, .extract (.tmp 91) 1, 28, none, true⟩, ⟨some 29, .assign (.tmp 97), 23, none, true⟩, ⟨some 30, .assign (.tmp 98), 28, none, true⟩])
  (.seq (.region [⟨some 100, .move (.tmp 0), 22, none, true⟩, ⟨some 101, .move (.tmp 1), 23, none, true⟩, ⟨some 102, .move (.tmp 3), 3, none, true⟩, ⟨some 103, .move (.tmp 4), 3, none, true⟩, ⟨some 104, .call (⟨.value (.func 23), #[.tmp 100, .tmp 101, .tmp 102, .tmp 103], #[22, 23, 3, 3]⟩), 31, none, true⟩, ⟨some 99, .move (.tmp 104), 31, none, true⟩, ⟨some 105, .extract (.tmp 99) 0, 23, none, true⟩, ⟨some 106, .extract (.tmp 99) 1, 28, none, true⟩, ⟨some 31, .assign (.tmp 105), 23, none, true⟩, ⟨some 32, .assign (.tmp 106), 28, none, true⟩])
  (.seq (.region [⟨some 108, .move (.tmp 1), 23, none, true⟩, ⟨some 109, .move (.tmp 3), 3, none, true⟩, ⟨some 110, .call (⟨.value (.func 11), #[.tmp 108, .tmp 109], #[23, 3]⟩), 36, none, true⟩, ⟨some 107, .move (.tmp 110), 36, none, true⟩, ⟨some 111, .extract (.tmp 107) 0, 25, none, true⟩, ⟨some 112, .extract (.tmp 107) 1, 4, none, true⟩, ⟨some 33, .alloc 25, 0, none, true⟩, ⟨none, .store 25 (.tmp 33) (.tmp 111), 0, none, true⟩, ⟨some 34, .assign (.tmp 112), 4, none, true⟩])
  (.seq (.region [⟨some 114, .move (.tmp 1), 23, none, true⟩, ⟨some 115, .move (.tmp 3), 3, none, true⟩, ⟨some 116, .call (⟨.value (.func 24), #[.tmp 114, .tmp 115], #[23, 3]⟩), 36, none, true⟩, ⟨some 113, .move (.tmp 116), 36, none, true⟩, ⟨some 117, .extract (.tmp 113) 0, 25, none, true⟩, ⟨some 118, .extract (.tmp 113) 1, 4, none, true⟩, ⟨some 35, .alloc 25, 0, none, true⟩, ⟨none, .store 25 (.tmp 35) (.tmp 117), 0, none, true⟩, ⟨some 36, .assign (.tmp 118), 4, none, true⟩])
  (.seq (.seq (.region [⟨some 119, .move (.tmp 14), 28, none, true⟩, ⟨some 120, .move (.tmp 16), 28, none, true⟩, ⟨some 121, .binOp .neq 28 (.tmp 119) (.tmp 120) 28, 4, none, true⟩, ⟨some 122, .move (.tmp 121), 4, none, true⟩, ⟨some 123, .move (.tmp 18), 28, some (some 122), false⟩, ⟨some 124, .move (.tmp 20), 28, some (some 122), false⟩, ⟨some 125, .binOp .neq 28 (.tmp 123) (.tmp 124) 28, 4, some (some 122), false⟩, ⟨some 126, .pick (.tmp 122) (.const (.bool true)) (.tmp 125), 4, none, true⟩, ⟨some 127, .move (.tmp 126), 4, none, true⟩, ⟨some 128, .move (.tmp 22), 28, some (some 127), false⟩, ⟨some 129, .move (.tmp 24), 28, some (some 127), false⟩, ⟨some 130, .binOp .neq 28 (.tmp 128) (.tmp 129) 28, 4, some (some 127), false⟩, ⟨some 131, .pick (.tmp 127) (.const (.bool true)) (.tmp 130), 4, none, true⟩, ⟨some 132, .move (.tmp 131), 4, none, true⟩, ⟨some 133, .move (.tmp 26), 28, some (some 132), false⟩, ⟨some 134, .move (.tmp 28), 28, some (some 132), false⟩, ⟨some 135, .binOp .neq 28 (.tmp 133) (.tmp 134) 28, 4, some (some 132), false⟩, ⟨some 136, .pick (.tmp 132) (.const (.bool true)) (.tmp 135), 4, none, true⟩, ⟨some 137, .move (.tmp 136), 4, none, true⟩, ⟨some 138, .move (.tmp 30), 28, some (some 137), false⟩, ⟨some 139, .move (.tmp 32), 28, some (some 137), false⟩, ⟨some 140, .binOp .neq 28 (.tmp 138) (.tmp 139) 28, 4, some (some 137), false⟩, ⟨some 141, .pick (.tmp 137) (.const (.bool true)) (.tmp 140), 4, none, true⟩, ⟨some 142, .move (.tmp 141), 4, none, true⟩, ⟨some 143, .move (.tmp 34), 4, some (some 142), false⟩, ⟨some 144, .move (.tmp 36), 4, some (some 142), false⟩, ⟨some 145, .binOp .neq 4 (.tmp 143) (.tmp 144) 4, 4, some (some 142), false⟩, ⟨some 146, .pick (.tmp 142) (.const (.bool true)) (.tmp 145), 4, none, true⟩, ⟨some 147, .move (.tmp 146), 4, none, true⟩, ⟨some 148, .load 25 (.tmp 33), 25, some (some 147), false⟩, ⟨some 149, .load 25 (.tmp 35), 25, some (some 147), false⟩, ⟨some 150, .binOp .neq 25 (.tmp 148) (.tmp 149) 25, 4, some (some 147), false⟩, ⟨some 151, .pick (.tmp 147) (.const (.bool true)) (.tmp 150), 4, none, true⟩])
  (.cond (.tmp 151) (.seq (.region [⟨some 12, .assign (.const (.bool false)), 4, none, true⟩])
  .ret) .skip))
  (.seq (.region [⟨some 152, .move (.tmp 13), 22, none, true⟩, ⟨some 153, .move (.tmp 15), 22, none, true⟩, ⟨some 154, .call (⟨.value (.func 25), #[.tmp 152, .tmp 153], #[22, 22]⟩), 4, none, true⟩, ⟨some 155, .move (.tmp 154), 4, none, true⟩, ⟨some 156, .move (.tmp 17), 22, some (some 155), true⟩, ⟨some 157, .move (.tmp 19), 22, some (some 155), true⟩, ⟨some 158, .call (⟨.value (.func 25), #[.tmp 156, .tmp 157], #[22, 22]⟩), 4, some (some 155), true⟩, ⟨some 159, .pick (.tmp 155) (.tmp 158) (.const (.bool false)), 4, none, true⟩, ⟨some 160, .move (.tmp 159), 4, none, true⟩, ⟨some 161, .move (.tmp 21), 23, some (some 160), true⟩, ⟨some 162, .move (.tmp 23), 23, some (some 160), true⟩, ⟨some 163, .call (⟨.value (.func 26), #[.tmp 161, .tmp 162], #[23, 23]⟩), 4, some (some 160), true⟩, ⟨some 164, .pick (.tmp 160) (.tmp 163) (.const (.bool false)), 4, none, true⟩, ⟨some 165, .move (.tmp 164), 4, none, true⟩, ⟨some 166, .move (.tmp 25), 23, some (some 165), true⟩, ⟨some 167, .move (.tmp 27), 23, some (some 165), true⟩, ⟨some 168, .call (⟨.value (.func 26), #[.tmp 166, .tmp 167], #[23, 23]⟩), 4, some (some 165), true⟩, ⟨some 169, .pick (.tmp 165) (.tmp 168) (.const (.bool false)), 4, none, true⟩, ⟨some 170, .move (.tmp 169), 4, none, true⟩, ⟨some 171, .move (.tmp 29), 23, some (some 170), true⟩, ⟨some 172, .move (.tmp 31), 23, some (some 170), true⟩, ⟨some 173, .call (⟨.value (.func 26), #[.tmp 171, .tmp 172], #[23, 23]⟩), 4, some (some 170), true⟩, ⟨some 174, .pick (.tmp 170) (.tmp 173) (.const (.bool false)), 4, none, true⟩, ⟨some 175, .move (.tmp 174), 4, none, true⟩, ⟨some 176, .move (.tmp 0), 22, some (some 175), true⟩, ⟨some 177, .call (⟨.value (.func 17), #[.tmp 176], #[22]⟩), 4, some (some 175), true⟩, ⟨some 178, .move (.tmp 0), 22, some (some 175), true⟩, ⟨some 179, .call (⟨.value (.func 27), #[.tmp 178], #[22]⟩), 4, some (some 175), true⟩, ⟨some 180, .binOp .eql 4 (.tmp 177) (.tmp 179) 4, 4, some (some 175), true⟩, ⟨some 181, .pick (.tmp 175) (.tmp 180) (.const (.bool false)), 4, none, true⟩, ⟨some 182, .move (.tmp 181), 4, none, true⟩, ⟨some 183, .move (.tmp 1), 23, some (some 182), true⟩, ⟨some 184, .call (⟨.value (.func 18), #[.tmp 183], #[23]⟩), 4, some (some 182), true⟩, ⟨some 185, .move (.tmp 1), 23, some (some 182), true⟩, ⟨some 186, .call (⟨.value (.func 28), #[.tmp 185], #[23]⟩), 4, some (some 182), true⟩, ⟨some 187, .binOp .eql 4 (.tmp 184) (.tmp 186) 4, 4, some (some 182), true⟩, ⟨some 188, .pick (.tmp 182) (.tmp 187) (.const (.bool false)), 4, none, true⟩, ⟨some 189, .move (.tmp 188), 4, none, true⟩, ⟨some 190, .move (.tmp 0), 22, some (some 189), true⟩, ⟨some 191, .move (.tmp 1), 23, some (some 189), true⟩, ⟨some 192, .call (⟨.value (.func 16), #[.tmp 190, .tmp 191], #[22, 23]⟩), 4, some (some 189), true⟩, ⟨some 193, .move (.tmp 0), 22, some (some 189), true⟩, ⟨some 194, .move (.tmp 1), 23, some (some 189), true⟩, ⟨some 195, .call (⟨.value (.func 29), #[.tmp 193, .tmp 194], #[22, 23]⟩), 4, some (some 189), true⟩, ⟨some 196, .binOp .eql 4 (.tmp 192) (.tmp 195) 4, 4, some (some 189), true⟩, ⟨some 197, .pick (.tmp 189) (.tmp 196) (.const (.bool false)), 4, none, true⟩, ⟨some 198, .move (.tmp 197), 4, none, true⟩, ⟨some 199, .move (.tmp 0), 22, some (some 198), true⟩, ⟨some 200, .move (.tmp 3), 3, some (some 198), true⟩, ⟨some 201, .call (⟨.value (.func 15), #[.tmp 199, .tmp 200], #[22, 3]⟩), 3, some (some 198), true⟩, ⟨some 202, .move (.tmp 0), 22, some (some 198), true⟩, ⟨some 203, .move (.tmp 3), 3, some (some 198), true⟩, ⟨some 204, .call (⟨.value (.func 30), #[.tmp 202, .tmp 203], #[22, 3]⟩), 3, some (some 198), true⟩, ⟨some 205, .binOp .eql 3 (.tmp 201) (.tmp 204) 3, 4, some (some 198), true⟩, ⟨some 206, .pick (.tmp 198) (.tmp 205) (.const (.bool false)), 4, none, true⟩, ⟨some 207, .move (.tmp 206), 4, none, true⟩, ⟨some 208, .move (.tmp 1), 23, some (some 207), true⟩, ⟨some 209, .move (.tmp 3), 3, some (some 207), true⟩, ⟨some 210, .call (⟨.value (.func 12), #[.tmp 208, .tmp 209], #[23, 3]⟩), 3, some (some 207), true⟩, ⟨some 211, .move (.tmp 1), 23, some (some 207), true⟩, ⟨some 212, .move (.tmp 3), 3, some (some 207), true⟩, ⟨some 213, .call (⟨.value (.func 31), #[.tmp 211, .tmp 212], #[23, 3]⟩), 3, some (some 207), true⟩, ⟨some 214, .binOp .eql 3 (.tmp 210) (.tmp 213) 3, 4, some (some 207), true⟩, ⟨some 215, .pick (.tmp 207) (.tmp 214) (.const (.bool false)), 4, none, true⟩, ⟨some 216, .move (.tmp 215), 4, none, true⟩, ⟨some 217, .move (.tmp 1), 23, some (some 216), true⟩, ⟨some 218, .move (.tmp 3), 3, some (some 216), true⟩, ⟨some 219, .call (⟨.value (.func 14), #[.tmp 217, .tmp 218], #[23, 3]⟩), 42, some (some 216), true⟩, ⟨some 220, .move (.tmp 1), 23, some (some 216), true⟩, ⟨some 221, .move (.tmp 3), 3, some (some 216), true⟩, ⟨some 222, .call (⟨.value (.func 32), #[.tmp 220, .tmp 221], #[23, 3]⟩), 42, some (some 216), true⟩, ⟨some 223, .call (⟨.value (.func 13), #[.tmp 219, .tmp 222], #[42, 42]⟩), 4, some (some 216), true⟩, ⟨some 224, .pick (.tmp 216) (.tmp 223) (.const (.bool false)), 4, none, true⟩, ⟨some 12, .assign (.tmp 224), 4, none, true⟩])
  .ret))))))))))))))
noncomputable def f5 : AFn := ⟨225, [.tmp 12], b5⟩
/-- novation/roll.Enrol -/
noncomputable def b6 : AC :=
  .seq (.region [⟨some 4, .assign (.const (.slice none 0 0)), 22, none, true⟩, ⟨some 5, .assign (.const (.int .i64 0)), 28, none, true⟩])
  (.seq (.region [⟨some 10, .call (⟨.value (.func 33), #[.const (.int .i64 0), .const (.int .i64 1)], #[3, 3]⟩), 50, none, true⟩, ⟨some 9, .move (.tmp 10), 50, none, true⟩, ⟨some 11, .extract (.tmp 9) 0, 3, none, true⟩, ⟨some 12, .extract (.tmp 9) 1, 4, none, true⟩, ⟨some 6, .assign (.tmp 11), 3, none, true⟩, ⟨some 7, .assign (.tmp 12), 4, none, true⟩])
  (.seq (.block 0 (.seq (.region [⟨some 14, .move (.tmp 0), 22, none, true⟩, ⟨some 15, .call (⟨.value (.func 17), #[.tmp 14], #[22]⟩), 4, none, true⟩, ⟨some 16, .unOp .not 4 (.tmp 15), 4, none, true⟩, ⟨some 17, .move (.tmp 16), 4, none, true⟩, ⟨some 18, .move (.tmp 1), 3, some (some 17), false⟩, ⟨some 19, .binOp .lss 3 (.tmp 18) (.const (.int .i64 1)) 3, 4, some (some 17), false⟩, ⟨some 20, .pick (.tmp 17) (.const (.bool true)) (.tmp 19), 4, none, true⟩, ⟨some 21, .move (.tmp 20), 4, none, true⟩, ⟨some 22, .move (.tmp 1), 3, some (some 21), false⟩, ⟨some 23, .binOp .gtr 3 (.tmp 22) (.const (.int .i64 12)) 3, 4, some (some 21), false⟩, ⟨some 24, .pick (.tmp 21) (.const (.bool true)) (.tmp 23), 4, none, true⟩, ⟨some 13, .assign (.tmp 24), 4, none, true⟩])
  (.cond (.tmp 13) (.seq (.region [⟨some 4, .assign (.const (.slice none 0 0)), 22, none, true⟩, ⟨some 5, .assign (.const (.int .i64 1)), 28, none, true⟩])
  .ret) (.seq (.region [⟨some 26, .move (.tmp 0), 22, none, true⟩, ⟨some 27, .move (.tmp 1), 3, none, true⟩, ⟨some 28, .call (⟨.value (.func 15), #[.tmp 26, .tmp 27], #[22, 3]⟩), 3, none, true⟩, ⟨some 29, .binOp .neq 3 (.tmp 28) (.const (.int .i64 0)) 3, 4, none, true⟩, ⟨some 25, .assign (.tmp 29), 4, none, true⟩])
  (.cond (.tmp 25) (.seq (.region [⟨some 4, .assign (.const (.slice none 0 0)), 22, none, true⟩, ⟨some 5, .assign (.const (.int .i64 4)), 28, none, true⟩])
  .ret) .skip)))))
  (.seq (.region [⟨some 8, .assign (.const (.int .i64 0)), 3, none, true⟩])
  (.seq (.block 1 (.loop [true, true, false, false, false, false, true, false, true, false, false, false, false, false, false, false, false, false, false, false, false, false, false, false, false, false, false, false, false, false, false, false, false, false, false, false, false, false, false, false, false, false, false, false, false, false, false, false, false, false, false, false, false] (.seq (.seq (.region [⟨some 30, .move (.tmp 8), 3, none, true⟩, ⟨some 31, .move (.tmp 0), 22, none, true⟩, ⟨some 32, .call (⟨.builtin .len, #[.tmp 31], #[22]⟩), 3, none, true⟩, ⟨some 33, .binOp .lss 3 (.tmp 30) (.tmp 32) 3, 4, none, true⟩, ⟨some 34, .move (.tmp 33), 4, none, true⟩, ⟨some 35, .move (.tmp 0), 22, some (some 34), true⟩, ⟨some 36, .move (.tmp 8), 3, some (some 34), true⟩, ⟨some 37, .indexAddr 22 (.tmp 35) (.tmp 36), 0, some (some 34), true⟩, ⟨some 38, .fieldAddr 39 (.tmp 37) 0, 0, some (some 34), true⟩, ⟨some 39, .load 3 (.tmp 38), 3, some (some 34), true⟩, ⟨some 40, .move (.tmp 1), 3, some (some 34), true⟩, ⟨some 41, .binOp .lss 3 (.tmp 39) (.tmp 40) 3, 4, some (some 34), true⟩, ⟨some 42, .pick (.tmp 34) (.tmp 41) (.const (.bool false)), 4, none, true⟩])
  (.cond (.tmp 42) .skip (.exit 1)))
  (.block 2 (.region [⟨some 43, .move (.tmp 8), 3, none, true⟩, ⟨some 44, .binOp .add 3 (.tmp 43) (.const (.int .i64 1)) 3, 3, none, true⟩, ⟨some 8, .assign (.tmp 44), 3, none, true⟩])))))
  (.seq (.region [⟨some 45, .move (.tmp 0), 22, none, true⟩, ⟨some 46, .call (⟨.value (.func 35), #[.tmp 45], #[22]⟩), 22, none, true⟩, ⟨some 47, .move (.tmp 8), 3, none, true⟩, ⟨some 48, .move (.tmp 1), 3, none, true⟩, ⟨some 49, .move (.tmp 6), 3, none, true⟩, ⟨some 50, .build 39 #[(0, .tmp 48), (1, .tmp 49)], 39, none, true⟩, ⟨some 51, .buildSlice 22 1 #[(0, .tmp 50)], 22, none, true⟩, ⟨some 52, .call (⟨.value (.func 34), #[.tmp 46, .tmp 47, .tmp 51], #[22, 3, 22]⟩), 22, none, true⟩, ⟨some 4, .assign (.tmp 52), 22, none, true⟩, ⟨some 5, .assign (.const (.int .i64 0)), 28, none, true⟩])
  .ret)))))
noncomputable def f6 : AFn := ⟨53, [.tmp 4, .tmp 5], b6⟩
/-- novation/roll.Open -/
noncomputable def b7 : AC :=
  .seq (.region [⟨some 5, .box 25 (.tmp 2), 0, none, true⟩, ⟨some 6, .assign (.const (.slice none 0 0)), 23, none, true⟩, ⟨some 7, .assign (.const (.int .i64 0)), 28, none, true⟩])
  (.seq (.seq (.region [⟨some 12, .move (.tmp 0), 22, none, true⟩, ⟨some 13, .move (.tmp 1), 23, none, true⟩, ⟨some 14, .call (⟨.value (.func 16), #[.tmp 12, .tmp 13], #[22, 23]⟩), 4, none, true⟩, ⟨some 15, .unOp .not 4 (.tmp 14), 4, none, true⟩, ⟨some 16, .move (.tmp 15), 4, none, true⟩, ⟨some 17, .load 25 (.tmp 5), 25, some (some 16), false⟩, ⟨some 18, .buildSlice 23 1 #[(0, .tmp 17)], 23, some (some 16), false⟩, ⟨some 19, .call (⟨.value (.func 18), #[.tmp 18], #[23]⟩), 4, some (some 16), false⟩, ⟨some 20, .unOp .not 4 (.tmp 19), 4, some (some 16), false⟩, ⟨some 21, .pick (.tmp 16) (.const (.bool true)) (.tmp 20), 4, none, true⟩])
  (.cond (.tmp 21) (.seq (.region [⟨some 6, .assign (.const (.slice none 0 0)), 23, none, true⟩, ⟨some 7, .assign (.const (.int .i64 1)), 28, none, true⟩])
  .ret) .skip))
  (.seq (.region [⟨some 23, .move (.tmp 1), 23, none, true⟩, ⟨some 24, .fieldAddr 25 (.tmp 5) 0, 0, none, true⟩, ⟨some 25, .load 3 (.tmp 24), 3, none, true⟩, ⟨some 26, .call (⟨.value (.func 11), #[.tmp 23, .tmp 25], #[23, 3]⟩), 36, none, true⟩, ⟨some 22, .move (.tmp 26), 36, none, true⟩, ⟨some 27, .extract (.tmp 22) 0, 25, none, true⟩, ⟨some 28, .extract (.tmp 22) 1, 4, none, true⟩, ⟨some 8, .alloc 25, 0, none, true⟩, ⟨none, .store 25 (.tmp 8) (.tmp 27), 0, none, true⟩, ⟨some 9, .assign (.tmp 28), 4, none, true⟩])
  (.seq (.seq (.region [⟨some 29, .move (.tmp 0), 22, none, true⟩, ⟨some 30, .fieldAddr 25 (.tmp 5) 1, 0, none, true⟩, ⟨some 31, .load 3 (.tmp 30), 3, none, true⟩, ⟨some 32, .call (⟨.value (.func 15), #[.tmp 29, .tmp 31], #[22, 3]⟩), 3, none, true⟩, ⟨some 10, .assign (.tmp 32), 3, none, true⟩])
  (.block 0 (.seq (.region [⟨some 34, .move (.tmp 10), 3, none, true⟩, ⟨some 35, .binOp .eql 3 (.tmp 34) (.const (.int .i64 0)) 3, 4, none, true⟩, ⟨some 33, .assign (.tmp 35), 4, none, true⟩])
  (.cond (.tmp 33) (.seq (.region [⟨some 6, .assign (.const (.slice none 0 0)), 23, none, true⟩, ⟨some 7, .assign (.const (.int .i64 3)), 28, none, true⟩])
  .ret) (.seq (.region [⟨some 37, .move (.tmp 10), 3, none, true⟩, ⟨some 38, .binOp .neq 3 (.tmp 37) (.const (.int .i64 1)) 3, 4, none, true⟩, ⟨some 36, .assign (.tmp 38), 4, none, true⟩])
  (.cond (.tmp 36) (.seq (.region [⟨some 6, .assign (.const (.slice none 0 0)), 23, none, true⟩, ⟨some 7, .assign (.const (.int .i64 7)), 28, none, true⟩])
  .ret) (.seq (.seq (.region [⟨some 40, .move (.tmp 9), 4, none, true⟩, ⟨some 39, .assign (.tmp 40), 4, none, true⟩])
  (.cond (.tmp 39) .skip (.region [⟨some 41, .fieldAddr 25 (.tmp 5) 2, 0, none, true⟩, ⟨some 42, .load 3 (.tmp 41), 3, none, true⟩, ⟨some 43, .binOp .eql 3 (.tmp 42) (.const (.int .i64 1)) 3, 4, none, true⟩, ⟨some 44, .move (.tmp 43), 4, none, true⟩, ⟨some 45, .move (.tmp 1), 23, some (some 44), true⟩, ⟨some 46, .fieldAddr 25 (.tmp 5) 1, 0, some (some 44), true⟩, ⟨some 47, .load 3 (.tmp 46), 3, some (some 44), true⟩, ⟨some 48, .call (⟨.value (.func 12), #[.tmp 45, .tmp 47], #[23, 3]⟩), 3, some (some 44), true⟩, ⟨some 49, .binOp .neq 3 (.tmp 48) (.const (.int .i64 0)) 3, 4, some (some 44), true⟩, ⟨some 50, .pick (.tmp 44) (.tmp 49) (.const (.bool false)), 4, none, true⟩, ⟨some 39, .assign (.tmp 50), 4, none, true⟩])))
  (.cond (.tmp 39) (.seq (.region [⟨some 6, .assign (.const (.slice none 0 0)), 23, none, true⟩, ⟨some 7, .assign (.const (.int .i64 4)), 28, none, true⟩])
  .ret) .skip))))))))
  (.seq (.region [⟨some 11, .assign (.const (.int .i64 0)), 3, none, true⟩])
  (.seq (.block 1 (.loop [false, true, false, false, false, true, false, false, false, false, false, true, false, false, false, false, false, false, false, false, false, false, false, false, false, false, false, false, false, false, false, false, false, false, false, false, false, false, false, false, false, false, false, false, false, false, false, false, false, false, false, false, false, false, false, false, false, false, false, false, false, false, false, false, false, false, false, false, false, false, false, false, false] (.seq (.seq (.draw (drawOf T.c7 13) [0, 1, 2, 3, 4, 5, 6, 7, 8, 9, 10, 11, 12, 13] [[], [], [1], [0, 1, 2], [0, 1, 2, 3], [0, 1, 2, 3, 4], [0, 1, 2, 3, 4], [0, 1, 2, 3, 4, 5, 6], [0, 1, 2, 3, 4, 5, 6, 7], [0, 1, 2, 3, 4, 5, 6, 7, 8], [0, 1, 2, 3, 4], [0, 1, 2, 3, 4, 10], [0, 1, 2, 3, 4, 5, 6, 7, 8, 9, 10, 11], [0, 1, 2, 3, 4, 5, 6, 7, 8, 9, 10, 11, 12]])
  (.cond (.tmp 64) .skip (.exit 1)))
  (.block 2 (.region [⟨some 65, .move (.tmp 11), 3, none, true⟩, ⟨some 66, .binOp .add 3 (.tmp 65) (.const (.int .i64 1)) 3, 3, none, true⟩, ⟨some 11, .assign (.tmp 66), 3, none, true⟩])))))
  (.seq (.draw (drawOf T.c7 15) [0, 2, 3, 1, 4, 5, 6, 7] [[], [0], [], [], [3], [0, 1, 2, 3, 4], [0, 1, 2, 3, 4, 5], [0, 1, 2, 3, 4, 5, 6]])
  .ret))))))
noncomputable def f7 : AFn := ⟨73, [.tmp 6, .tmp 7], b7⟩
/-- novation/roll.Limit -/
noncomputable def b8 : AC :=
  .seq (.region [⟨some 6, .assign (.const (.slice none 0 0)), 23, none, true⟩, ⟨some 7, .assign (.const (.int .i64 0)), 28, none, true⟩])
  (.seq (.seq (.region [⟨some 10, .move (.tmp 0), 23, none, true⟩, ⟨some 11, .call (⟨.value (.func 18), #[.tmp 10], #[23]⟩), 4, none, true⟩, ⟨some 12, .unOp .not 4 (.tmp 11), 4, none, true⟩, ⟨some 13, .move (.tmp 12), 4, none, true⟩, ⟨some 14, .move (.tmp 2), 2, some (some 13), false⟩, ⟨some 15, .binOp .lss 2 (.tmp 14) (.const (.int .i64 0)) 2, 4, some (some 13), false⟩, ⟨some 16, .pick (.tmp 13) (.const (.bool true)) (.tmp 15), 4, none, true⟩, ⟨some 17, .move (.tmp 16), 4, none, true⟩, ⟨some 18, .move (.tmp 2), 2, some (some 17), false⟩, ⟨some 19, .binOp .gtr 2 (.tmp 18) (.const (.int .i64 1000000000000)) 2, 4, some (some 17), false⟩, ⟨some 20, .pick (.tmp 17) (.const (.bool true)) (.tmp 19), 4, none, true⟩])
  (.cond (.tmp 20) (.seq (.region [⟨some 6, .assign (.const (.slice none 0 0)), 23, none, true⟩, ⟨some 7, .assign (.const (.int .i64 1)), 28, none, true⟩])
  .ret) .skip))
  (.seq (.region [⟨some 22, .move (.tmp 0), 23, none, true⟩, ⟨some 23, .move (.tmp 1), 3, none, true⟩, ⟨some 24, .call (⟨.value (.func 11), #[.tmp 22, .tmp 23], #[23, 3]⟩), 36, none, true⟩, ⟨some 21, .move (.tmp 24), 36, none, true⟩, ⟨some 25, .extract (.tmp 21) 0, 25, none, true⟩, ⟨some 26, .extract (.tmp 21) 1, 4, none, true⟩, ⟨some 8, .alloc 25, 0, none, true⟩, ⟨none, .store 25 (.tmp 8) (.tmp 25), 0, none, true⟩, ⟨some 9, .assign (.tmp 26), 4, none, true⟩])
  (.seq (.seq (.region [⟨some 27, .move (.tmp 9), 4, none, true⟩, ⟨some 28, .unOp .not 4 (.tmp 27), 4, none, true⟩])
  (.cond (.tmp 28) (.seq (.region [⟨some 6, .assign (.const (.slice none 0 0)), 23, none, true⟩, ⟨some 7, .assign (.const (.int .i64 3)), 28, none, true⟩])
  .ret) .skip))
  (.seq (.region [⟨some 29, .move (.tmp 2), 2, none, true⟩, ⟨some 30, .fieldAddr 25 (.tmp 8) 3, 0, none, true⟩, ⟨none, .store 2 (.tmp 30) (.tmp 29), 0, none, true⟩])
  (.seq (.region [⟨some 31, .move (.tmp 0), 23, none, true⟩, ⟨some 32, .load 25 (.tmp 8), 25, none, true⟩, ⟨some 33, .call (⟨.value (.func 38), #[.tmp 31, .tmp 32], #[23, 25]⟩), 23, none, true⟩, ⟨some 6, .assign (.tmp 33), 23, none, true⟩, ⟨some 7, .assign (.const (.int .i64 0)), 28, none, true⟩])
  .ret)))))
noncomputable def f8 : AFn := ⟨34, [.tmp 6, .tmp 7], b8⟩
/-- novation/roll.Port -/
noncomputable def b9 : AC :=
  .seq (.region [⟨some 8, .assign (.const (.slice none 0 0)), 23, none, true⟩, ⟨some 9, .assign (.const (.int .i64 0)), 28, none, true⟩])
  (.seq (.seq (.region [⟨some 13, .move (.tmp 0), 22, none, true⟩, ⟨some 14, .move (.tmp 1), 23, none, true⟩, ⟨some 15, .call (⟨.value (.func 16), #[.tmp 13, .tmp 14], #[22, 23]⟩), 4, none, true⟩, ⟨some 16, .unOp .not 4 (.tmp 15), 4, none, true⟩])
  (.cond (.tmp 16) (.seq (.region [⟨some 8, .assign (.const (.slice none 0 0)), 23, none, true⟩, ⟨some 9, .assign (.const (.int .i64 1)), 28, none, true⟩])
  .ret) .skip))
  (.seq (.region [⟨some 18, .move (.tmp 1), 23, none, true⟩, ⟨some 19, .move (.tmp 2), 3, none, true⟩, ⟨some 20, .call (⟨.value (.func 11), #[.tmp 18, .tmp 19], #[23, 3]⟩), 36, none, true⟩, ⟨some 17, .move (.tmp 20), 36, none, true⟩, ⟨some 21, .extract (.tmp 17) 0, 25, none, true⟩, ⟨some 22, .extract (.tmp 17) 1, 4, none, true⟩, ⟨some 10, .alloc 25, 0, none, true⟩, ⟨none, .store 25 (.tmp 10) (.tmp 21), 0, none, true⟩, ⟨some 11, .assign (.tmp 22), 4, none, true⟩])
  (.seq (.seq (.region [⟨some 23, .move (.tmp 0), 22, none, true⟩, ⟨some 24, .move (.tmp 3), 3, none, true⟩, ⟨some 25, .call (⟨.value (.func 15), #[.tmp 23, .tmp 24], #[22, 3]⟩), 3, none, true⟩, ⟨some 12, .assign (.tmp 25), 3, none, true⟩])
  (.block 0 (.seq (.seq (.region [⟨some 27, .move (.tmp 11), 4, none, true⟩, ⟨some 28, .unOp .not 4 (.tmp 27), 4, none, true⟩, ⟨some 26, .assign (.tmp 28), 4, none, true⟩])
  (.cond (.tmp 26) .skip (.region [⟨some 29, .move (.tmp 12), 3, none, true⟩, ⟨some 30, .binOp .eql 3 (.tmp 29) (.const (.int .i64 0)) 3, 4, none, true⟩, ⟨some 26, .assign (.tmp 30), 4, none, true⟩])))
  (.cond (.tmp 26) (.seq (.region [⟨some 8, .assign (.const (.slice none 0 0)), 23, none, true⟩, ⟨some 9, .assign (.const (.int .i64 3)), 28, none, true⟩])
  .ret) (.seq (.region [⟨some 32, .fieldAddr 25 (.tmp 10) 2, 0, none, true⟩, ⟨some 33, .load 3 (.tmp 32), 3, none, true⟩, ⟨some 34, .binOp .neq 3 (.tmp 33) (.const (.int .i64 2)) 3, 4, none, true⟩, ⟨some 31, .assign (.tmp 34), 4, none, true⟩])
  (.cond (.tmp 31) (.seq (.region [⟨some 8, .assign (.const (.slice none 0 0)), 23, none, true⟩, ⟨some 9, .assign (.const (.int .i64 8)), 28, none, true⟩])
  .ret) (.seq (.region [⟨some 36, .move (.tmp 12), 3, none, true⟩, ⟨some 37, .binOp .neq 3 (.tmp 36) (.const (.int .i64 1)) 3, 4, none, true⟩, ⟨some 35, .assign (.tmp 37), 4, none, true⟩])
  (.cond (.tmp 35) (.seq (.region [⟨some 8, .assign (.const (.slice none 0 0)), 23, none, true⟩, ⟨some 9, .assign (.const (.int .i64 7)), 28, none, true⟩])
  .ret) .skip))))))))
  (.seq (.region [⟨some 38, .move (.tmp 3), 3, none, true⟩, ⟨some 39, .fieldAddr 25 (.tmp 10) 1, 0, none, true⟩, ⟨none, .store 3 (.tmp 39) (.tmp 38), 0, none, true⟩])
  (.seq (.region [⟨some 40, .move (.tmp 1), 23, none, true⟩, ⟨some 41, .load 25 (.tmp 10), 25, none, true⟩, ⟨some 42, .call (⟨.value (.func 38), #[.tmp 40, .tmp 41], #[23, 25]⟩), 23, none, true⟩, ⟨some 8, .assign (.tmp 42), 23, none, true⟩, ⟨some 9, .assign (.const (.int .i64 0)), 28, none, true⟩])
  .ret)))))
noncomputable def f9 : AFn := ⟨43, [.tmp 8, .tmp 9], b9⟩
/-- novation/roll.Turn -/
noncomputable def b10 : AC :=
  .seq (.region [⟨some 6, .assign (.const (.slice none 0 0)), 22, none, true⟩, ⟨some 7, .assign (.const (.int .i64 0)), 28, none, true⟩])
  (.seq (.seq (.region [⟨some 13, .move (.tmp 0), 22, none, true⟩, ⟨some 14, .call (⟨.value (.func 17), #[.tmp 13], #[22]⟩), 4, none, true⟩, ⟨some 15, .unOp .not 4 (.tmp 14), 4, none, true⟩])
  (.cond (.tmp 15) (.seq (.region [⟨some 6, .assign (.const (.slice none 0 0)), 22, none, true⟩, ⟨some 7, .assign (.const (.int .i64 1)), 28, none, true⟩])
  .ret) .skip))
  (.seq (.region [⟨some 16, .move (.tmp 0), 22, none, true⟩, ⟨some 17, .move (.tmp 1), 3, none, true⟩, ⟨some 18, .call (⟨.value (.func 15), #[.tmp 16, .tmp 17], #[22, 3]⟩), 3, none, true⟩, ⟨some 8, .assign (.tmp 18), 3, none, true⟩])
  (.seq (.seq (.region [⟨some 19, .move (.tmp 8), 3, none, true⟩, ⟨some 20, .binOp .eql 3 (.tmp 19) (.const (.int .i64 0)) 3, 4, none, true⟩])
  (.cond (.tmp 20) (.seq (.region [⟨some 6, .assign (.const (.slice none 0 0)), 22, none, true⟩, ⟨some 7, .assign (.const (.int .i64 3)), 28, none, true⟩])
  .ret) .skip))
  (.seq (.region [⟨some 22, .move (.tmp 8), 3, none, true⟩, ⟨some 23, .move (.tmp 2), 3, none, true⟩, ⟨some 24, .call (⟨.value (.func 33), #[.tmp 22, .tmp 23], #[3, 3]⟩), 50, none, true⟩, ⟨some 21, .move (.tmp 24), 50, none, true⟩, ⟨some 25, .extract (.tmp 21) 0, 3, none, true⟩, ⟨some 26, .extract (.tmp 21) 1, 4, none, true⟩, ⟨some 9, .assign (.tmp 25), 3, none, true⟩, ⟨some 10, .assign (.tmp 26), 4, none, true⟩])
  (.seq (.seq (.region [⟨some 27, .move (.tmp 10), 4, none, true⟩, ⟨some 28, .unOp .not 4 (.tmp 27), 4, none, true⟩])
  (.cond (.tmp 28) (.seq (.region [⟨some 6, .assign (.const (.slice none 0 0)), 22, none, true⟩, ⟨some 7, .assign (.const (.int .i64 8)), 28, none, true⟩])
  .ret) .skip))
  (.seq (.region [⟨some 29, .move (.tmp 0), 22, none, true⟩, ⟨some 30, .call (⟨.value (.func 35), #[.tmp 29], #[22]⟩), 22, none, true⟩, ⟨some 11, .assign (.tmp 30), 22, none, true⟩])
  (.seq (.seq (.region [⟨some 31, .move (.tmp 11), 22, none, true⟩, ⟨some 32, .call (⟨.builtin .len, #[.tmp 31], #[22]⟩), 3, none, true⟩, ⟨some 33, .move (.const (.int .i64 0)), 3, none, true⟩])
  (.block 0 (.loop [false, true, false, false, false, false, false, false, false, true, false, true, false, false, false, false, false, false, false, false, false, false, false, false, false, false, false, false, false, false, false, false, true, true, false, false, false, false, false, false, false, false, false, false, false, false, false, false, false, false] (.seq (.region [⟨some 34, .binOp .lss 3 (.tmp 33) (.tmp 32) 3, 0, none, true⟩])
  (.seq (.cond (.tmp 34) .skip (.exit 0))
  (.seq (.block 1 (.seq (.region [⟨some 35, .move (.tmp 33), 3, none, true⟩, ⟨some 12, .assign (.tmp 35), 3, none, true⟩])
  (.seq (.region [⟨some 36, .move (.tmp 11), 22, none, true⟩, ⟨some 37, .move (.tmp 12), 3, none, true⟩, ⟨some 38, .indexAddr 22 (.tmp 36) (.tmp 37), 0, none, true⟩, ⟨some 39, .fieldAddr 39 (.tmp 38) 0, 0, none, true⟩, ⟨some 40, .load 3 (.tmp 39), 3, none, true⟩, ⟨some 41, .move (.tmp 1), 3, none, true⟩, ⟨some 42, .binOp .eql 3 (.tmp 40) (.tmp 41) 3, 4, none, true⟩])
  (.cond (.tmp 42) (.region [⟨some 43, .move (.tmp 11), 22, none, true⟩, ⟨some 44, .move (.tmp 12), 3, none, true⟩, ⟨some 45, .move (.tmp 9), 3, none, true⟩, ⟨some 46, .indexAddr 22 (.tmp 43) (.tmp 44), 0, none, true⟩, ⟨some 47, .fieldAddr 39 (.tmp 46) 1, 0, none, true⟩, ⟨none, .store 3 (.tmp 47) (.tmp 45), 0, none, true⟩]) .skip))))
  (.region [⟨some 48, .binOp .add 3 (.tmp 33) (.const (.int .i64 1)) 3, 3, none, true⟩, ⟨some 33, .move (.tmp 48), 3, none, true⟩])))))))
  (.seq (.region [⟨some 49, .move (.tmp 11), 22, none, true⟩, ⟨some 6, .assign (.tmp 49), 22, none, true⟩, ⟨some 7, .assign (.const (.int .i64 0)), 28, none, true⟩])
  .ret))))))))
noncomputable def f10 : AFn := ⟨50, [.tmp 6, .tmp 7], b10⟩
/-- novation/roll.Find -/
noncomputable def b11 : AC :=
  .seq (.region [⟨some 4, .alloc 25, 0, none, true⟩, ⟨some 5, .assign (.const (.bool false)), 4, none, true⟩])
  (.seq (.seq (.region [⟨some 8, .move (.tmp 0), 23, none, true⟩, ⟨some 9, .call (⟨.value (.func 18), #[.tmp 8], #[23]⟩), 4, none, true⟩, ⟨some 10, .unOp .not 4 (.tmp 9), 4, none, true⟩])
  (.cond (.tmp 10) (.seq (.region [⟨some 11, .build 25 #[], 25, none, true⟩, ⟨none, .store 25 (.tmp 4) (.tmp 11), 0, none, true⟩, ⟨some 5, .assign (.const (.bool false)), 4, none, true⟩])
  .ret) .skip))
  (.seq (.seq (.region [⟨some 12, .move (.tmp 0), 23, none, true⟩, ⟨some 13, .call (⟨.builtin .len, #[.tmp 12], #[23]⟩), 3, none, true⟩, ⟨some 14, .move (.const (.int .i64 0)), 3, none, true⟩])
  (.block 0 (.loop [false, true, false, false, true, false, false, false, false, false, false, false, true, true, true, false, false, false, false, false, false, false, false, false, false] (.seq (.region [⟨some 15, .binOp .lss 3 (.tmp 14) (.tmp 13) 3, 0, none, true⟩])
  (.seq (.cond (.tmp 15) .skip (.exit 0))
  (.seq (.block 1 (.seq (.region [⟨some 16, .indexAddr 23 (.tmp 12) (.tmp 14), 0, none, true⟩, ⟨some 17, .load 25 (.tmp 16), 25, none, true⟩, ⟨some 7, .alloc 25, 0, none, true⟩, ⟨none, .store 25 (.tmp 7) (.tmp 17), 0, none, true⟩])
  (.seq (.region [⟨some 18, .fieldAddr 25 (.tmp 7) 0, 0, none, true⟩, ⟨some 19, .load 3 (.tmp 18), 3, none, true⟩, ⟨some 20, .move (.tmp 1), 3, none, true⟩, ⟨some 21, .binOp .eql 3 (.tmp 19) (.tmp 20) 3, 4, none, true⟩])
  (.cond (.tmp 21) (.seq (.region [⟨some 22, .load 25 (.tmp 7), 25, none, true⟩, ⟨none, .store 25 (.tmp 4) (.tmp 22), 0, none, true⟩, ⟨some 5, .assign (.const (.bool true)), 4, none, true⟩])
  .ret) .skip))))
  (.region [⟨some 23, .binOp .add 3 (.tmp 14) (.const (.int .i64 1)) 3, 3, none, true⟩, ⟨some 14, .move (.tmp 23), 3, none, true⟩])))))))
  (.seq (.region [⟨some 24, .build 25 #[], 25, none, true⟩, ⟨none, .store 25 (.tmp 4) (.tmp 24), 0, none, true⟩, ⟨some 5, .assign (.const (.bool false)), 4, none, true⟩])
  .ret)))
noncomputable def f11 : AFn := ⟨25, [.cell 4 25, .tmp 5], b11⟩
/-- novation/roll.House -/
noncomputable def b12 : AC :=
  .seq (.region [⟨some 4, .assign (.const (.int .i64 0)), 3, none, true⟩])
  (.seq (.seq (.region [⟨some 7, .move (.tmp 0), 23, none, true⟩, ⟨some 8, .call (⟨.value (.func 18), #[.tmp 7], #[23]⟩), 4, none, true⟩, ⟨some 9, .unOp .not 4 (.tmp 8), 4, none, true⟩])
  (.cond (.tmp 9) (.seq (.region [⟨some 4, .assign (.const (.int .i64 0)), 3, none, true⟩])
  .ret) .skip))
  (.seq (.seq (.region [⟨some 10, .move (.tmp 0), 23, none, true⟩, ⟨some 11, .call (⟨.builtin .len, #[.tmp 10], #[23]⟩), 3, none, true⟩, ⟨some 12, .move (.const (.int .i64 0)), 3, none, true⟩])
  (.block 0 (.loop [false, true, false, false, false, false, false, false, false, false, true, true, true, false, false, false, false, false, false, false, false, false, false, false, false, false, false, false] (.seq (.region [⟨some 13, .binOp .lss 3 (.tmp 12) (.tmp 11) 3, 0, none, true⟩])
  (.seq (.cond (.tmp 13) .skip (.exit 0))
  (.seq (.block 1 (.seq (.region [⟨some 14, .indexAddr 23 (.tmp 10) (.tmp 12), 0, none, true⟩, ⟨some 15, .load 25 (.tmp 14), 25, none, true⟩, ⟨some 6, .alloc 25, 0, none, true⟩, ⟨none, .store 25 (.tmp 6) (.tmp 15), 0, none, true⟩])
  (.seq (.region [⟨some 16, .fieldAddr 25 (.tmp 6) 1, 0, none, true⟩, ⟨some 17, .load 3 (.tmp 16), 3, none, true⟩, ⟨some 18, .move (.tmp 1), 3, none, true⟩, ⟨some 19, .binOp .eql 3 (.tmp 17) (.tmp 18) 3, 4, none, true⟩, ⟨some 20, .move (.tmp 19), 4, none, true⟩, ⟨some 21, .fieldAddr 25 (.tmp 6) 2, 0, some (some 20), true⟩, ⟨some 22, .load 3 (.tmp 21), 3, some (some 20), true⟩, ⟨some 23, .binOp .eql 3 (.tmp 22) (.const (.int .i64 1)) 3, 4, some (some 20), true⟩, ⟨some 24, .pick (.tmp 20) (.tmp 23) (.const (.bool false)), 4, none, true⟩])
  (.cond (.tmp 24) (.seq (.region [⟨some 25, .fieldAddr 25 (.tmp 6) 0, 0, none, true⟩, ⟨some 26, .load 3 (.tmp 25), 3, none, true⟩, ⟨some 4, .assign (.tmp 26), 3, none, true⟩])
  .ret) .skip))))
  (.region [⟨some 27, .binOp .add 3 (.tmp 12) (.const (.int .i64 1)) 3, 3, none, true⟩, ⟨some 12, .move (.tmp 27), 3, none, true⟩])))))))
  (.seq (.region [⟨some 4, .assign (.const (.int .i64 0)), 3, none, true⟩])
  .ret)))
noncomputable def f12 : AFn := ⟨28, [.tmp 4], b12⟩
/-- novation/novationhelp.Nums -/
noncomputable def b13 : AC :=
  .seq (.region [⟨some 4, .assign (.const (.bool false)), 4, none, true⟩])
  (.seq (.seq (.region [⟨some 6, .move (.tmp 0), 42, none, true⟩, ⟨some 7, .call (⟨.builtin .len, #[.tmp 6], #[42]⟩), 3, none, true⟩, ⟨some 8, .move (.tmp 1), 42, none, true⟩, ⟨some 9, .call (⟨.builtin .len, #[.tmp 8], #[42]⟩), 3, none, true⟩, ⟨some 10, .binOp .neq 3 (.tmp 7) (.tmp 9) 3, 4, none, true⟩])
  (.cond (.tmp 10) (.seq (.region [⟨some 4, .assign (.const (.bool false)), 4, none, true⟩])
  .ret) .skip))
  (.seq (.seq (.region [⟨some 5, .assign (.const (.int .i64 0)), 3, none, true⟩])
  (.block 0 (.loop [true, true, false, false, false, true, false, false, false, false, false, false, false, false, false, false, false, false, false, false, false, false, false, false, false, false] (.seq (.seq (.region [⟨some 11, .move (.tmp 5), 3, none, true⟩, ⟨some 12, .move (.tmp 0), 42, none, true⟩, ⟨some 13, .call (⟨.builtin .len, #[.tmp 12], #[42]⟩), 3, none, true⟩, ⟨some 14, .binOp .lss 3 (.tmp 11) (.tmp 13) 3, 4, none, true⟩])
  (.cond (.tmp 14) .skip (.exit 0)))
  (.seq (.block 1 (.seq (.draw (drawOf T.c13 6) [0, 1, 2, 3, 4, 5, 6, 7, 8] [[], [], [0, 1], [0, 1, 2], [], [], [4, 5], [4, 5, 6], [0, 1, 2, 3, 4, 5, 6, 7]])
  (.cond (.tmp 25) (.seq (.region [⟨some 4, .assign (.const (.bool false)), 4, none, true⟩])
  .ret) .skip)))
  (.region [⟨some 15, .move (.tmp 5), 3, none, true⟩, ⟨some 16, .binOp .add 3 (.tmp 15) (.const (.int .i64 1)) 3, 3, none, true⟩, ⟨some 5, .assign (.tmp 16), 3, none, true⟩]))))))
  (.seq (.region [⟨some 4, .assign (.const (.bool true)), 4, none, true⟩])
  .ret)))
noncomputable def f13 : AFn := ⟨26, [.tmp 4], b13⟩
/-- novation/roll.Owned -/
noncomputable def b14 : AC :=
  .seq (.region [⟨some 4, .assign (.const (.slice none 0 0)), 42, none, true⟩])
  (.seq (.seq (.region [⟨some 8, .move (.tmp 0), 23, none, true⟩, ⟨some 9, .call (⟨.value (.func 18), #[.tmp 8], #[23]⟩), 4, none, true⟩, ⟨some 10, .unOp .not 4 (.tmp 9), 4, none, true⟩])
  (.cond (.tmp 10) (.seq (.region [⟨some 4, .assign (.const (.slice none 0 0)), 42, none, true⟩])
  .ret) .skip))
  (.seq (.region [⟨some 5, .assign (.const (.slice none 0 0)), 42, none, true⟩])
  (.seq (.seq (.region [⟨some 11, .move (.tmp 0), 23, none, true⟩, ⟨some 12, .call (⟨.builtin .len, #[.tmp 11], #[23]⟩), 3, none, true⟩, ⟨some 13, .move (.const (.int .i64 0)), 3, none, true⟩])
  (.block 0 (.loop [false, true, false, false, false, true, false, false, false, false, false, true, true, true, false, false, false, false, false, false, false, false, false, false, false, false, false, false] (.seq (.region [⟨some 14, .binOp .lss 3 (.tmp 13) (.tmp 12) 3, 0, none, true⟩])
  (.seq (.cond (.tmp 14) .skip (.exit 0))
  (.seq (.block 1 (.seq (.region [⟨some 15, .indexAddr 23 (.tmp 11) (.tmp 13), 0, none, true⟩, ⟨some 16, .load 25 (.tmp 15), 25, none, true⟩, ⟨some 7, .alloc 25, 0, none, true⟩, ⟨none, .store 25 (.tmp 7) (.tmp 16), 0, none, true⟩])
  (.seq (.region [⟨some 17, .fieldAddr 25 (.tmp 7) 1, 0, none, true⟩, ⟨some 18, .load 3 (.tmp 17), 3, none, true⟩, ⟨some 19, .move (.tmp 1), 3, none, true⟩, ⟨some 20, .binOp .eql 3 (.tmp 18) (.tmp 19) 3, 4, none, true⟩])
  (.cond (.tmp 20) (.region [⟨some 21, .move (.tmp 5), 42, none, true⟩, ⟨some 22, .fieldAddr 25 (.tmp 7) 0, 0, none, true⟩, ⟨some 23, .load 3 (.tmp 22), 3, none, true⟩, ⟨some 24, .buildSlice 42 1 #[(0, .tmp 23)], 42, none, true⟩, ⟨some 25, .call (⟨.builtin .append, #[.tmp 21, .tmp 24], #[42, 42]⟩), 42, none, true⟩, ⟨some 5, .assign (.tmp 25), 42, none, true⟩]) .skip))))
  (.region [⟨some 26, .binOp .add 3 (.tmp 13) (.const (.int .i64 1)) 3, 3, none, true⟩, ⟨some 13, .move (.tmp 26), 3, none, true⟩])))))))
  (.seq (.region [⟨some 27, .move (.tmp 5), 42, none, true⟩, ⟨some 4, .assign (.tmp 27), 42, none, true⟩])
  .ret))))
noncomputable def f14 : AFn := ⟨28, [.tmp 4], b14⟩
/-- novation/roll.Status -/
noncomputable def b15 : AC :=
  .seq (.region [⟨some 4, .assign (.const (.int .i64 0)), 3, none, true⟩])
  (.seq (.seq (.region [⟨some 7, .move (.tmp 0), 22, none, true⟩, ⟨some 8, .call (⟨.value (.func 17), #[.tmp 7], #[22]⟩), 4, none, true⟩, ⟨some 9, .unOp .not 4 (.tmp 8), 4, none, true⟩])
  (.cond (.tmp 9) (.seq (.region [⟨some 4, .assign (.const (.int .i64 0)), 3, none, true⟩])
  .ret) .skip))
  (.seq (.seq (.region [⟨some 10, .move (.tmp 0), 22, none, true⟩, ⟨some 11, .call (⟨.builtin .len, #[.tmp 10], #[22]⟩), 3, none, true⟩, ⟨some 12, .move (.const (.int .i64 0)), 3, none, true⟩])
  (.block 0 (.loop [false, true, false, false, false, false, false, false, false, false, true, true, true, false, false, false, false, false, false, false, false, false, false] (.seq (.region [⟨some 13, .binOp .lss 3 (.tmp 12) (.tmp 11) 3, 0, none, true⟩])
  (.seq (.cond (.tmp 13) .skip (.exit 0))
  (.seq (.block 1 (.seq (.region [⟨some 14, .indexAddr 22 (.tmp 10) (.tmp 12), 0, none, true⟩, ⟨some 15, .load 39 (.tmp 14), 39, none, true⟩, ⟨some 6, .alloc 39, 0, none, true⟩, ⟨none, .store 39 (.tmp 6) (.tmp 15), 0, none, true⟩])
  (.seq (.region [⟨some 16, .fieldAddr 39 (.tmp 6) 0, 0, none, true⟩, ⟨some 17, .load 3 (.tmp 16), 3, none, true⟩, ⟨some 18, .move (.tmp 1), 3, none, true⟩, ⟨some 19, .binOp .eql 3 (.tmp 17) (.tmp 18) 3, 4, none, true⟩])
  (.cond (.tmp 19) (.seq (.region [⟨some 20, .fieldAddr 39 (.tmp 6) 1, 0, none, true⟩, ⟨some 21, .load 3 (.tmp 20), 3, none, true⟩, ⟨some 4, .assign (.tmp 21), 3, none, true⟩])
  .ret) .skip))))
  (.region [⟨some 22, .binOp .add 3 (.tmp 12) (.const (.int .i64 1)) 3, 3, none, true⟩, ⟨some 12, .move (.tmp 22), 3, none, true⟩])))))))
  (.seq (.region [⟨some 4, .assign (.const (.int .i64 0)), 3, none, true⟩])
  .ret)))
noncomputable def f15 : AFn := ⟨23, [.tmp 4], b15⟩
/-- novation/roll.Right -/
noncomputable def b16 : AC :=
  .seq (.region [⟨some 4, .assign (.const (.bool false)), 4, none, true⟩])
  (.seq (.seq (.region [⟨some 7, .move (.tmp 0), 22, none, true⟩, ⟨some 8, .call (⟨.value (.func 17), #[.tmp 7], #[22]⟩), 4, none, true⟩, ⟨some 9, .unOp .not 4 (.tmp 8), 4, none, true⟩, ⟨some 10, .move (.tmp 9), 4, none, true⟩, ⟨some 11, .move (.tmp 1), 23, some (some 10), false⟩, ⟨some 12, .call (⟨.value (.func 18), #[.tmp 11], #[23]⟩), 4, some (some 10), false⟩, ⟨some 13, .unOp .not 4 (.tmp 12), 4, some (some 10), false⟩, ⟨some 14, .pick (.tmp 10) (.const (.bool true)) (.tmp 13), 4, none, true⟩])
  (.cond (.tmp 14) (.seq (.region [⟨some 4, .assign (.const (.bool false)), 4, none, true⟩])
  .ret) .skip))
  (.seq (.seq (.region [⟨some 15, .move (.tmp 1), 23, none, true⟩, ⟨some 16, .call (⟨.builtin .len, #[.tmp 15], #[23]⟩), 3, none, true⟩, ⟨some 17, .move (.const (.int .i64 0)), 3, none, true⟩])
  (.block 0 (.loop [true, false, false, false, false, false, false, false, false, false, false, false, false, false, false, true, true, true, false, false, false, false, false, false, false, false, false] (.seq (.region [⟨some 18, .binOp .lss 3 (.tmp 17) (.tmp 16) 3, 0, none, true⟩])
  (.seq (.cond (.tmp 18) .skip (.exit 0))
  (.seq (.block 1 (.seq (.region [⟨some 19, .indexAddr 23 (.tmp 15) (.tmp 17), 0, none, true⟩, ⟨some 20, .load 25 (.tmp 19), 25, none, true⟩, ⟨some 6, .alloc 25, 0, none, true⟩, ⟨none, .store 25 (.tmp 6) (.tmp 20), 0, none, true⟩])
  (.seq (.region [⟨some 21, .move (.tmp 0), 22, none, true⟩, ⟨some 22, .fieldAddr 25 (.tmp 6) 1, 0, none, true⟩, ⟨some 23, .load 3 (.tmp 22), 3, none, true⟩, ⟨some 24, .call (⟨.value (.func 15), #[.tmp 21, .tmp 23], #[22, 3]⟩), 3, none, true⟩, ⟨some 25, .binOp .eql 3 (.tmp 24) (.const (.int .i64 0)) 3, 4, none, true⟩])
  (.cond (.tmp 25) (.seq (.region [⟨some 4, .assign (.const (.bool false)), 4, none, true⟩])
  .ret) .skip))))
  (.region [⟨some 26, .binOp .add 3 (.tmp 17) (.const (.int .i64 1)) 3, 3, none, true⟩, ⟨some 17, .move (.tmp 26), 3, none, true⟩])))))))
  (.seq (.region [⟨some 4, .assign (.const (.bool true)), 4, none, true⟩])
  .ret)))
noncomputable def f16 : AFn := ⟨27, [.tmp 4], b16⟩
/-- novation/roll.Members -/
noncomputable def b17 : AC :=
  .seq (.region [⟨some 2, .assign (.const (.bool false)), 4, none, true⟩])
  (.seq (.seq (.region [⟨some 5, .move (.tmp 0), 22, none, true⟩, ⟨some 6, .call (⟨.builtin .len, #[.tmp 5], #[22]⟩), 3, none, true⟩, ⟨some 7, .move (.const (.int .i64 0)), 3, none, true⟩])
  (.block 0 (.loop [true, false, false, false, false, true, true, true, false, false, false, false, false, false, false, false, false, false, false, false, false, false, false, false, false, false, false, false, false, false, false, false, false, false, false, false, false, false, false, false, false, false, false, false, false, false] (.seq (.region [⟨some 8, .binOp .lss 3 (.tmp 7) (.tmp 6) 3, 0, none, true⟩])
  (.seq (.cond (.tmp 8) .skip (.exit 0))
  (.seq (.block 1 (.seq (.region [⟨some 9, .move (.tmp 7), 3, none, true⟩, ⟨some 10, .indexAddr 22 (.tmp 5) (.tmp 7), 0, none, true⟩, ⟨some 11, .load 39 (.tmp 10), 39, none, true⟩, ⟨some 4, .alloc 39, 0, none, true⟩, ⟨some 3, .assign (.tmp 9), 3, none, true⟩, ⟨none, .store 39 (.tmp 4) (.tmp 11), 0, none, true⟩])
  (.seq (.draw (drawOf T.c17 4) [0, 1, 2, 3, 4, 5, 6, 7, 8, 9, 10, 11, 12, 13, 14, 15, 16, 17, 18, 19, 20, 21, 22, 23, 24, 25, 26, 27, 28, 29, 30, 31, 32] [[], [0], [0, 1], [0, 1, 2], [0, 1, 2, 3], [0, 1, 2, 3, 4], [0, 1, 2, 3, 4, 5], [0, 1, 2, 3, 4, 5, 6], [0, 1, 2, 3, 4, 5, 6, 7], [0, 1, 2, 3, 4, 5, 6, 7, 8], [0, 1, 2, 3, 4, 5, 6, 7, 8, 9], [0, 1, 2, 3, 4, 5, 6, 7, 8, 9, 10], [0, 1, 2, 3, 4, 5, 6, 7, 8, 9, 10, 11], [0, 1, 2, 3, 4, 5, 6, 7, 8, 9, 10, 11, 12], [0, 1, 2, 3, 4, 5, 6, 7, 8, 9, 10, 11, 12, 13], [0, 1, 2, 3, 4, 5, 6, 7, 8, 9, 10, 11, 12, 13, 14], [0, 1, 2, 3, 4, 5, 6, 7, 8, 9, 10, 11, 12, 13, 14, 15], [0, 1, 2, 3, 4, 5, 6, 7, 8, 9, 10, 11, 12, 13, 14, 15, 16], [0, 1, 2, 3, 4, 5, 6, 7, 8, 9, 10, 11, 12, 13, 14, 15, 16, 17], [0, 1, 2, 3, 4, 5, 6, 7, 8, 9, 10, 11, 12, 13, 14, 15, 16, 17, 18], [0, 1, 2, 3, 4, 5, 6, 7, 8, 9, 10, 11, 12, 13, 14, 15, 16, 17, 18, 19], [0, 1, 2, 3, 4, 5, 6, 7, 8, 9, 10, 11, 12, 13, 14, 15, 16, 17, 18, 19, 20], [0, 1, 2, 3, 4, 5, 6, 7, 8, 9, 10, 11, 12, 13, 14, 15, 16, 17, 18, 19, 20, 21], [0, 1, 2, 3, 4, 5, 6, 7, 8, 9, 10, 11, 12, 13, 14, 15, 16, 17, 18, 19, 20, 21], [0, 1, 2, 3, 4, 5, 6, 7, 8, 9, 10, 11, 12, 13, 14, 15, 16, 17, 18, 19, 20, 21, 23], [0, 1, 2, 3, 4, 5, 6, 7, 8, 9, 10, 11, 12, 13, 14, 15, 16, 17, 18, 19, 20, 21, 22, 23, 24], [0, 1, 2, 3, 4, 5, 6, 7, 8, 9, 10, 11, 12, 13, 14, 15, 16, 17, 18, 19, 20, 21, 22, 23, 24, 25], [0, 1, 2, 3, 4, 5, 6, 7, 8, 9, 10, 11, 12, 13, 14, 15, 16, 17, 18, 19, 20, 21, 22, 23, 24, 25, 26], [0, 1, 2, 3, 4, 5, 6, 7, 8, 9, 10, 11, 12, 13, 14, 15, 16, 17, 18, 19, 20, 21], [0, 1, 2, 3, 4, 5, 6, 7, 8, 9, 10, 11, 12, 13, 14, 15, 16, 17, 18, 19, 20, 21, 28], [0, 1, 2, 3, 4, 5, 6, 7, 8, 9, 10, 11, 12, 13, 14, 15, 16, 17, 18, 19, 20, 21, 22, 23, 24, 25, 26, 27, 28, 29], [0, 1, 2, 3, 4, 5, 6, 7, 8, 9, 10, 11, 12, 13, 14, 15, 16, 17, 18, 19, 20, 21, 22, 23, 24, 25, 26, 27, 28, 29, 30], [0, 1, 2, 3, 4, 5, 6, 7, 8, 9, 10, 11, 12, 13, 14, 15, 16, 17, 18, 19, 20, 21, 22, 23, 24, 25, 26, 27, 28, 29, 30, 31]])
  (.cond (.tmp 44) (.seq (.region [⟨some 2, .assign (.const (.bool false)), 4, none, true⟩])
  .ret) .skip))))
  (.region [⟨some 45, .binOp .add 3 (.tmp 7) (.const (.int .i64 1)) 3, 3, none, true⟩, ⟨some 7, .move (.tmp 45), 3, none, true⟩])))))))
  (.seq (.region [⟨some 2, .assign (.const (.bool true)), 4, none, true⟩])
  .ret))
noncomputable def f17 : AFn := ⟨46, [.tmp 2], b17⟩
/-- novation/roll.Accs -/
noncomputable def b18 : AC :=
  .seq (.region [⟨some 2, .assign (.const (.bool false)), 4, none, true⟩])
  (.seq (.region [⟨some 3, .alloc 57, 0, none, true⟩])
  (.seq (.seq (.region [⟨some 6, .move (.tmp 0), 23, none, true⟩, ⟨some 7, .call (⟨.builtin .len, #[.tmp 6], #[23]⟩), 3, none, true⟩, ⟨some 8, .move (.const (.int .i64 0)), 3, none, true⟩])
  (.block 0 (.loop [true, false, false, true, false, false, true, true, true, false, false, false, false, false, false, false, false, false, false, false, false, false, false, false, false, false, false, false, false, false, false, false, false, false, false, false, false, false, false, false, false, false, false, false, false, false, false, false, false, false, false, false, false, false, false, false, false, false, false, false, false, false, false, false, false, false, false, false, false, false, false, false, false, false, false, false, false] (.seq (.region [⟨some 9, .binOp .lss 3 (.tmp 8) (.tmp 7) 3, 0, none, true⟩])
  (.seq (.cond (.tmp 9) .skip (.exit 0))
  (.seq (.block 1 (.seq (.region [⟨some 10, .move (.tmp 8), 3, none, true⟩, ⟨some 11, .indexAddr 23 (.tmp 6) (.tmp 8), 0, none, true⟩, ⟨some 12, .load 25 (.tmp 11), 25, none, true⟩, ⟨some 5, .alloc 25, 0, none, true⟩, ⟨some 4, .assign (.tmp 10), 3, none, true⟩, ⟨none, .store 25 (.tmp 5) (.tmp 12), 0, none, true⟩])
  (.seq (.seq (.draw (drawOf T.c18 5) [0, 1, 2, 3, 4, 5, 6, 7, 8, 9, 10, 11, 12, 13, 14, 15, 16, 17, 18, 19, 20, 21, 22, 23, 24, 25, 26, 27, 28, 29, 30, 31, 32, 33, 34, 35, 36, 37, 38, 39, 40, 41, 42, 43, 44, 45, 46, 47, 48, 49, 50, 51, 52] [[], [0], [0, 1], [0, 1, 2], [0, 1, 2, 3], [0, 1, 2, 3, 4], [0, 1, 2, 3, 4, 5], [0, 1, 2, 3, 4, 5, 6], [0, 1, 2, 3, 4, 5, 6, 7], [0, 1, 2, 3, 4, 5, 6, 7, 8], [0, 1, 2, 3, 4, 5, 6, 7, 8, 9], [0, 1, 2, 3, 4, 5, 6, 7, 8, 9, 10], [0, 1, 2, 3, 4, 5, 6, 7, 8, 9, 10, 11], [0, 1, 2, 3, 4, 5, 6, 7, 8, 9, 10, 11, 12], [0, 1, 2, 3, 4, 5, 6, 7, 8, 9, 10, 11, 12, 13], [0, 1, 2, 3, 4, 5, 6, 7, 8, 9, 10, 11, 12, 13, 14], [0, 1, 2, 3, 4, 5, 6, 7, 8, 9, 10, 11, 12, 13, 14, 15], [0, 1, 2, 3, 4, 5, 6, 7, 8, 9, 10, 11, 12, 13, 14, 15, 16], [0, 1, 2, 3, 4, 5, 6, 7, 8, 9, 10, 11, 12, 13, 14, 15, 16, 17], [0, 1, 2, 3, 4, 5, 6, 7, 8, 9, 10, 11, 12, 13, 14, 15, 16, 17, 18], [0, 1, 2, 3, 4, 5, 6, 7, 8, 9, 10, 11, 12, 13, 14, 15, 16, 17, 18, 19], [0, 1, 2, 3, 4, 5, 6, 7, 8, 9, 10, 11, 12, 13, 14, 15, 16, 17, 18, 19, 20], [0, 1, 2, 3, 4, 5, 6, 7, 8, 9, 10, 11, 12, 13, 14, 15, 16, 17, 18, 19, 20, 21], [0, 1, 2, 3, 4, 5, 6, 7, 8, 9, 10, 11, 12, 13, 14, 15, 16, 17, 18, 19, 20, 21, 22], [0, 1, 2, 3, 4, 5, 6, 7, 8, 9, 10, 11, 12, 13, 14, 15, 16, 17, 18, 19, 20, 21, 22, 23], [0, 1, 2, 3, 4, 5, 6, 7, 8, 9, 10, 11, 12, 13, 14, 15, 16, 17, 18, 19, 20, 21, 22, 23, 24], [0, 1, 2, 3, 4, 5, 6, 7, 8, 9, 10, 11, 12, 13, 14, 15, 16, 17, 18, 19, 20, 21, 22, 23, 24, 25], [0, 1, 2, 3, 4, 5, 6, 7, 8, 9, 10, 11, 12, 13, 14, 15, 16, 17, 18, 19, 20, 21, 22, 23, 24, 25, 26], [0, 1, 2, 3, 4, 5, 6, 7, 8, 9, 10, 11, 12, 13, 14, 15, 16, 17, 18, 19, 20, 21, 22, 23, 24, 25, 26, 27], [0, 1, 2, 3, 4, 5, 6, 7, 8, 9, 10, 11, 12, 13, 14, 15, 16, 17, 18, 19, 20, 21, 22, 23, 24, 25, 26, 27, 28], [0, 1, 2, 3, 4, 5, 6, 7, 8, 9, 10, 11, 12, 13, 14, 15, 16, 17, 18, 19, 20, 21, 22, 23, 24, 25, 26, 27, 28, 29], [0, 1, 2, 3, 4, 5, 6, 7, 8, 9, 10, 11, 12, 13, 14, 15, 16, 17, 18, 19, 20, 21, 22, 23, 24, 25, 26, 27, 28, 29, 30], [0, 1, 2, 3, 4, 5, 6, 7, 8, 9, 10, 11, 12, 13, 14, 15, 16, 17, 18, 19, 20, 21, 22, 23, 24, 25, 26, 27, 28, 29, 30, 31], [0, 1, 2, 3, 4, 5, 6, 7, 8, 9, 10, 11, 12, 13, 14, 15, 16, 17, 18, 19, 20, 21, 22, 23, 24, 25, 26, 27, 28, 29, 30, 31, 32], [0, 1, 2, 3, 4, 5, 6, 7, 8, 9, 10, 11, 12, 13, 14, 15, 16, 17, 18, 19, 20, 21, 22, 23, 24, 25, 26, 27, 28, 29, 30, 31, 32, 33], [0, 1, 2, 3, 4, 5, 6, 7, 8, 9, 10, 11, 12, 13, 14, 15, 16, 17, 18, 19, 20, 21, 22, 23, 24, 25, 26, 27, 28, 29, 30, 31, 32, 33, 34], [0, 1, 2, 3, 4, 5, 6, 7, 8, 9, 10, 11, 12, 13, 14, 15, 16, 17, 18, 19, 20, 21, 22, 23, 24, 25, 26, 27, 28, 29, 30, 31, 32, 33, 34, 35], [0, 1, 2, 3, 4, 5, 6, 7, 8, 9, 10, 11, 12, 13, 14, 15, 16, 17, 18, 19, 20, 21, 22, 23, 24, 25, 26, 27, 28, 29, 30, 31, 32, 33, 34, 35, 36], [0, 1, 2, 3, 4, 5, 6, 7, 8, 9, 10, 11, 12, 13, 14, 15, 16, 17, 18, 19, 20, 21, 22, 23, 24, 25, 26, 27, 28, 29, 30, 31, 32, 33, 34, 35, 36, 37], [0, 1, 2, 3, 4, 5, 6, 7, 8, 9, 10, 11, 12, 13, 14, 15, 16, 17, 18, 19, 20, 21, 22, 23, 24, 25, 26, 27, 28, 29, 30, 31, 32, 33, 34, 35, 36, 37, 38], [0, 1, 2, 3, 4, 5, 6, 7, 8, 9, 10, 11, 12, 13, 14, 15, 16, 17, 18, 19, 20, 21, 22, 23, 24, 25, 26, 27, 28, 29, 30, 31, 32, 33, 34, 35, 36, 37, 38, 39], [0, 1, 2, 3, 4, 5, 6, 7, 8, 9, 10, 11, 12, 13, 14, 15, 16, 17, 18, 19, 20, 21, 22, 23, 24, 25, 26, 27, 28, 29, 30, 31, 32, 33, 34, 35, 36, 37, 38, 39, 40], [0, 1, 2, 3, 4, 5, 6, 7, 8, 9, 10, 11, 12, 13, 14, 15, 16, 17, 18, 19, 20, 21, 22, 23, 24, 25, 26, 27, 28, 29, 30, 31, 32, 33, 34, 35, 36, 37, 38, 39, 40, 41], [0, 1, 2, 3, 4, 5, 6, 7, 8, 9, 10, 11, 12, 13, 14, 15, 16, 17, 18, 19, 20, 21, 22, 23, 24, 25, 26, 27, 28, 29, 30, 31, 32, 33, 34, 35, 36, 37, 38, 39, 40, 41], [0, 1, 2, 3, 4, 5, 6, 7, 8, 9, 10, 11, 12, 13, 14, 15, 16, 17, 18, 19, 20, 21, 22, 23, 24, 25, 26, 27, 28, 29, 30, 31, 32, 33, 34, 35, 36, 37, 38, 39, 40, 41, 43], [0, 1, 2, 3, 4, 5, 6, 7, 8, 9, 10, 11, 12, 13, 14, 15, 16, 17, 18, 19, 20, 21, 22, 23, 24, 25, 26, 27, 28, 29, 30, 31, 32, 33, 34, 35, 36, 37, 38, 39, 40, 41, 42, 43, 44], [0, 1, 2, 3, 4, 5, 6, 7, 8, 9, 10, 11, 12, 13, 14, 15, 16, 17, 18, 19, 20, 21, 22, 23, 24, 25, 26, 27, 28, 29, 30, 31, 32, 33, 34, 35, 36, 37, 38, 39, 40, 41, 42, 43, 44, 45], [0, 1, 2, 3, 4, 5, 6, 7, 8, 9, 10, 11, 12, 13, 14, 15, 16, 17, 18, 19, 20, 21, 22, 23, 24, 25, 26, 27, 28, 29, 30, 31, 32, 33, 34, 35, 36, 37, 38, 39, 40, 41, 42, 43, 44, 45, 46], [0, 1, 2, 3, 4, 5, 6, 7, 8, 9, 10, 11, 12, 13, 14, 15, 16, 17, 18, 19, 20, 21, 22, 23, 24, 25, 26, 27, 28, 29, 30, 31, 32, 33, 34, 35, 36, 37, 38, 39, 40, 41], [0, 1, 2, 3, 4, 5, 6, 7, 8, 9, 10, 11, 12, 13, 14, 15, 16, 17, 18, 19, 20, 21, 22, 23, 24, 25, 26, 27, 28, 29, 30, 31, 32, 33, 34, 35, 36, 37, 38, 39, 40, 41, 48], [0, 1, 2, 3, 4, 5, 6, 7, 8, 9, 10, 11, 12, 13, 14, 15, 16, 17, 18, 19, 20, 21, 22, 23, 24, 25, 26, 27, 28, 29, 30, 31, 32, 33, 34, 35, 36, 37, 38, 39, 40, 41, 42, 43, 44, 45, 46, 47, 48, 49], [0, 1, 2, 3, 4, 5, 6, 7, 8, 9, 10, 11, 12, 13, 14, 15, 16, 17, 18, 19, 20, 21, 22, 23, 24, 25, 26, 27, 28, 29, 30, 31, 32, 33, 34, 35, 36, 37, 38, 39, 40, 41, 42, 43, 44, 45, 46, 47, 48, 49, 50], [0, 1, 2, 3, 4, 5, 6, 7, 8, 9, 10, 11, 12, 13, 14, 15, 16, 17, 18, 19, 20, 21, 22, 23, 24, 25, 26, 27, 28, 29, 30, 31, 32, 33, 34, 35, 36, 37, 38, 39, 40, 41, 42, 43, 44, 45, 46, 47, 48, 49, 50, 51]])
  (.cond (.tmp 65) (.seq (.region [⟨some 2, .assign (.const (.bool false)), 4, none, true⟩])
  .ret) .skip))
  (.seq (.region [⟨some 66, .fieldAddr 25 (.tmp 5) 2, 0, none, true⟩, ⟨some 67, .load 3 (.tmp 66), 3, none, true⟩, ⟨some 68, .binOp .eql 3 (.tmp 67) (.const (.int .i64 1)) 3, 4, none, true⟩])
  (.cond (.tmp 68) (.seq (.seq (.region [⟨some 69, .fieldAddr 25 (.tmp 5) 1, 0, none, true⟩, ⟨some 70, .load 3 (.tmp 69), 3, none, true⟩, ⟨some 71, .indexAddr 57 (.tmp 3) (.tmp 70), 0, none, true⟩, ⟨some 72, .load 4 (.tmp 71), 4, none, true⟩])
  (.cond (.tmp 72) (.seq (.region [⟨some 2, .assign (.const (.bool false)), 4, none, true⟩])
  .ret) .skip))
  (.region [⟨some 73, .fieldAddr 25 (.tmp 5) 1, 0, none, true⟩, ⟨some 74, .load 3 (.tmp 73), 3, none, true⟩, ⟨some 75, .indexAddr 57 (.tmp 3) (.tmp 74), 0, none, true⟩, ⟨none, .store 4 (.tmp 75) (.const (.bool true)), 0, none, true⟩])) .skip)))))
  (.region [⟨some 76, .binOp .add 3 (.tmp 8) (.const (.int .i64 1)) 3, 3, none, true⟩, ⟨some 8, .move (.tmp 76), 3, none, true⟩])))))))
  (.seq (.region [⟨some 2, .assign (.const (.bool true)), 4, none, true⟩])
  .ret)))
noncomputable def f18 : AFn := ⟨77, [.tmp 2], b18⟩
/-- novation/novationref10.Enrol -/
noncomputable def b19 : AC :=
  .seq (.region [⟨some 4, .assign (.const (.slice none 0 0)), 22, none, true⟩, ⟨some 5, .assign (.const (.int .i64 0)), 28, none, true⟩])
  (.seq (.seq (.region [⟨some 8, .move (.tmp 0), 22, none, true⟩, ⟨some 9, .call (⟨.value (.func 27), #[.tmp 8], #[22]⟩), 4, none, true⟩, ⟨some 10, .unOp .not 4 (.tmp 9), 4, none, true⟩, ⟨some 11, .move (.tmp 10), 4, none, true⟩, ⟨some 12, .move (.tmp 1), 3, some (some 11), false⟩, ⟨some 13, .binOp .lss 3 (.tmp 12) (.const (.int .i64 1)) 3, 4, some (some 11), false⟩, ⟨some 14, .pick (.tmp 11) (.const (.bool true)) (.tmp 13), 4, none, true⟩, ⟨some 15, .move (.tmp 14), 4, none, true⟩, ⟨some 16, .move (.tmp 1), 3, some (some 15), false⟩, ⟨some 17, .binOp .gtr 3 (.tmp 16) (.const (.int .i64 12)) 3, 4, some (some 15), false⟩, ⟨some 18, .pick (.tmp 15) (.const (.bool true)) (.tmp 17), 4, none, true⟩])
  (.cond (.tmp 18) (.seq (.region [⟨some 4, .assign (.const (.slice none 0 0)), 22, none, true⟩, ⟨some 5, .assign (.const (.int .i64 1)), 28, none, true⟩])
  .ret) .skip))
  (.seq (.seq (.region [⟨some 19, .move (.tmp 0), 22, none, true⟩, ⟨some 20, .move (.tmp 1), 3, none, true⟩, ⟨some 21, .call (⟨.value (.func 39), #[.tmp 19, .tmp 20], #[22, 3]⟩), 3, none, true⟩, ⟨some 22, .binOp .neq 3 (.tmp 21) (.const (.int .i64 0)) 3, 4, none, true⟩])
  (.cond (.tmp 22) (.seq (.region [⟨some 4, .assign (.const (.slice none 0 0)), 22, none, true⟩, ⟨some 5, .assign (.const (.int .i64 4)), 28, none, true⟩])
  .ret) .skip))
  (.seq (.region [⟨some 6, .assign (.const (.slice none 0 0)), 22, none, true⟩])
  (.seq (.region [⟨some 7, .assign (.const (.int .i64 0)), 3, none, true⟩])
  (.seq (.block 0 (.loop [true, true, false, false, false, false, true, true, false, false, false, false, false, false, false, false, false, false, false, false, false, false, false, false, false, false, false, false, false, false, false, false, false, false, false, false, false, false, false, false, false, false, false, false, false, false, false, false, false, false, false, false, false] (.seq (.seq (.region [⟨some 23, .move (.tmp 7), 3, none, true⟩, ⟨some 24, .move (.tmp 0), 22, none, true⟩, ⟨some 25, .call (⟨.builtin .len, #[.tmp 24], #[22]⟩), 3, none, true⟩, ⟨some 26, .binOp .lss 3 (.tmp 23) (.tmp 25) 3, 4, none, true⟩, ⟨some 27, .move (.tmp 26), 4, none, true⟩, ⟨some 28, .move (.tmp 0), 22, some (some 27), true⟩, ⟨some 29, .move (.tmp 7), 3, some (some 27), true⟩, ⟨some 30, .indexAddr 22 (.tmp 28) (.tmp 29), 0, some (some 27), true⟩, ⟨some 31, .fieldAddr 39 (.tmp 30) 0, 0, some (some 27), true⟩, ⟨some 32, .load 3 (.tmp 31), 3, some (some 27), true⟩, ⟨some 33, .move (.tmp 1), 3, some (some 27), true⟩, ⟨some 34, .binOp .lss 3 (.tmp 32) (.tmp 33) 3, 4, some (some 27), true⟩, ⟨some 35, .pick (.tmp 27) (.tmp 34) (.const (.bool false)), 4, none, true⟩])
  (.cond (.tmp 35) .skip (.exit 0)))
  (.block 1 (.region [⟨some 36, .move (.tmp 7), 3, none, true⟩, ⟨some 37, .binOp .add 3 (.tmp 36) (.const (.int .i64 1)) 3, 3, none, true⟩, ⟨some 7, .assign (.tmp 37), 3, none, true⟩])))))
  (.seq (.region [⟨some 38, .move (.tmp 6), 22, none, true⟩, ⟨some 39, .move (.tmp 0), 22, none, true⟩, ⟨some 40, .move (.tmp 7), 3, none, true⟩, ⟨some 41, .slice 22 (.tmp 39) none (some (.tmp 40)) none, 22, none, true⟩, ⟨some 42, .call (⟨.builtin .append, #[.tmp 38, .tmp 41], #[22, 22]⟩), 22, none, true⟩, ⟨some 6, .assign (.tmp 42), 22, none, true⟩])
  (.seq (.region [⟨some 43, .move (.tmp 6), 22, none, true⟩, ⟨some 44, .move (.tmp 1), 3, none, true⟩, ⟨some 45, .build 39 #[(0, .tmp 44), (1, .const (.int .i64 1))], 39, none, true⟩, ⟨some 46, .buildSlice 22 1 #[(0, .tmp 45)], 22, none, true⟩, ⟨some 47, .call (⟨.builtin .append, #[.tmp 43, .tmp 46], #[22, 22]⟩), 22, none, true⟩, ⟨some 6, .assign (.tmp 47), 22, none, true⟩])
  (.seq (.region [⟨some 48, .move (.tmp 6), 22, none, true⟩, ⟨some 49, .move (.tmp 0), 22, none, true⟩, ⟨some 50, .move (.tmp 7), 3, none, true⟩, ⟨some 51, .slice 22 (.tmp 49) (some (.tmp 50)) none none, 22, none, true⟩, ⟨some 52, .call (⟨.builtin .append, #[.tmp 48, .tmp 51], #[22, 22]⟩), 22, none, true⟩, ⟨some 4, .assign (.tmp 52), 22, none, true⟩, ⟨some 5, .assign (.const (.int .i64 0)), 28, none, true⟩])
  .ret))))))))
noncomputable def f19 : AFn := ⟨53, [.tmp 4, .tmp 5], b19⟩
/-- novation/novationref10.Turn -/
noncomputable def b20 : AC :=
  .seq (.region [⟨some 6, .assign (.const (.slice none 0 0)), 22, none, true⟩, ⟨some 7, .assign (.const (.int .i64 0)), 28, none, true⟩])
  (.seq (.seq (.region [⟨some 13, .move (.tmp 0), 22, none, true⟩, ⟨some 14, .call (⟨.value (.func 27), #[.tmp 13], #[22]⟩), 4, none, true⟩, ⟨some 15, .unOp .not 4 (.tmp 14), 4, none, true⟩])
  (.cond (.tmp 15) (.seq (.region [⟨some 6, .assign (.const (.slice none 0 0)), 22, none, true⟩, ⟨some 7, .assign (.const (.int .i64 1)), 28, none, true⟩])
  .ret) .skip))
  (.seq (.region [⟨some 16, .move (.tmp 0), 22, none, true⟩, ⟨some 17, .move (.tmp 1), 3, none, true⟩, ⟨some 18, .call (⟨.value (.func 39), #[.tmp 16, .tmp 17], #[22, 3]⟩), 3, none, true⟩, ⟨some 8, .assign (.tmp 18), 3, none, true⟩])
  (.seq (.seq (.region [⟨some 19, .move (.tmp 8), 3, none, true⟩, ⟨some 20, .binOp .eql 3 (.tmp 19) (.const (.int .i64 0)) 3, 4, none, true⟩])
  (.cond (.tmp 20) (.seq (.region [⟨some 6, .assign (.const (.slice none 0 0)), 22, none, true⟩, ⟨some 7, .assign (.const (.int .i64 3)), 28, none, true⟩])
  .ret) .skip))
  (.seq (.region [⟨some 22, .move (.tmp 8), 3, none, true⟩, ⟨some 23, .move (.tmp 2), 3, none, true⟩, ⟨some 24, .call (⟨.value (.func 40), #[.tmp 22, .tmp 23], #[3, 3]⟩), 50, none, true⟩, ⟨some 21, .move (.tmp 24), 50, none, true⟩, ⟨some 25, .extract (.tmp 21) 0, 3, none, true⟩, ⟨some 26, .extract (.tmp 21) 1, 4, none, true⟩, ⟨some 9, .assign (.tmp 25), 3, none, true⟩, ⟨some 10, .assign (.tmp 26), 4, none, true⟩])
  (.seq (.seq (.region [⟨some 27, .move (.tmp 10), 4, none, true⟩, ⟨some 28, .unOp .not 4 (.tmp 27), 4, none, true⟩])
  (.cond (.tmp 28) (.seq (.region [⟨some 6, .assign (.const (.slice none 0 0)), 22, none, true⟩, ⟨some 7, .assign (.const (.int .i64 8)), 28, none, true⟩])
  .ret) .skip))
  (.seq (.region [⟨some 29, .buildSlice 22 0 #[], 22, none, true⟩, ⟨some 30, .move (.tmp 0), 22, none, true⟩, ⟨some 31, .call (⟨.builtin .append, #[.tmp 29, .tmp 30], #[22, 22]⟩), 22, none, true⟩, ⟨some 11, .assign (.tmp 31), 22, none, true⟩])
  (.seq (.seq (.region [⟨some 12, .assign (.const (.int .i64 0)), 3, none, true⟩])
  (.block 0 (.loop [false, true, false, false, false, false, false, false, false, true, false, true, true, false, false, false, false, false, false, false, false, false, false, false, false, false, false, false, false, false, false, false, false, false, false, false, false, false, false, false, false, false, false, false, false, false, false, false, false, false, false] (.seq (.seq (.region [⟨some 32, .move (.tmp 12), 3, none, true⟩, ⟨some 33, .move (.tmp 11), 22, none, true⟩, ⟨some 34, .call (⟨.builtin .len, #[.tmp 33], #[22]⟩), 3, none, true⟩, ⟨some 35, .binOp .lss 3 (.tmp 32) (.tmp 34) 3, 4, none, true⟩])
  (.cond (.tmp 35) .skip (.exit 0)))
  (.seq (.block 1 (.seq (.region [⟨some 38, .move (.tmp 11), 22, none, true⟩, ⟨some 39, .move (.tmp 12), 3, none, true⟩, ⟨some 40, .indexAddr 22 (.tmp 38) (.tmp 39), 0, none, true⟩, ⟨some 41, .fieldAddr 39 (.tmp 40) 0, 0, none, true⟩, ⟨some 42, .load 3 (.tmp 41), 3, none, true⟩, ⟨some 43, .move (.tmp 1), 3, none, true⟩, ⟨some 44, .binOp .eql 3 (.tmp 42) (.tmp 43) 3, 4, none, true⟩])
  (.cond (.tmp 44) (.region [⟨some 45, .move (.tmp 11), 22, none, true⟩, ⟨some 46, .move (.tmp 12), 3, none, true⟩, ⟨some 47, .move (.tmp 9), 3, none, true⟩, ⟨some 48, .indexAddr 22 (.tmp 45) (.tmp 46), 0, none, true⟩, ⟨some 49, .fieldAddr 39 (.tmp 48) 1, 0, none, true⟩, ⟨none, .store 3 (.tmp 49) (.tmp 47), 0, none, true⟩]) .skip)))
  (.region [⟨some 36, .move (.tmp 12), 3, none, true⟩, ⟨some 37, .binOp .add 3 (.tmp 36) (.const (.int .i64 1)) 3, 3, none, true⟩, ⟨some 12, .assign (.tmp 37), 3, none, true⟩]))))))
  (.seq (.region [⟨some 50, .move (.tmp 11), 22, none, true⟩, ⟨some 6, .assign (.tmp 50), 22, none, true⟩, ⟨some 7, .assign (.const (.int .i64 0)), 28, none, true⟩])
  .ret))))))))
noncomputable def f20 : AFn := ⟨51, [.tmp 6, .tmp 7], b20⟩
/-- novation/novationref10.Open -/
noncomputable def b21 : AC :=
  .seq (.region [⟨some 5, .box 25 (.tmp 2), 0, none, true⟩, ⟨some 6, .assign (.const (.slice none 0 0)), 23, none, true⟩, ⟨some 7, .assign (.const (.int .i64 0)), 28, none, true⟩])
  (.seq (.seq (.region [⟨some 13, .move (.tmp 0), 22, none, true⟩, ⟨some 14, .move (.tmp 1), 23, none, true⟩, ⟨some 15, .call (⟨.value (.func 29), #[.tmp 13, .tmp 14], #[22, 23]⟩), 4, none, true⟩, ⟨some 16, .unOp .not 4 (.tmp 15), 4, none, true⟩, ⟨some 17, .move (.tmp 16), 4, none, true⟩, ⟨some 18, .load 25 (.tmp 5), 25, some (some 17), false⟩, ⟨some 19, .buildSlice 23 1 #[(0, .tmp 18)], 23, some (some 17), false⟩, ⟨some 20, .call (⟨.value (.func 28), #[.tmp 19], #[23]⟩), 4, some (some 17), false⟩, ⟨some 21, .unOp .not 4 (.tmp 20), 4, some (some 17), false⟩, ⟨some 22, .pick (.tmp 17) (.const (.bool true)) (.tmp 21), 4, none, true⟩])
  (.cond (.tmp 22) (.seq (.region [⟨some 6, .assign (.const (.slice none 0 0)), 23, none, true⟩, ⟨some 7, .assign (.const (.int .i64 1)), 28, none, true⟩])
  .ret) .skip))
  (.seq (.region [⟨some 23, .move (.tmp 0), 22, none, true⟩, ⟨some 24, .fieldAddr 25 (.tmp 5) 1, 0, none, true⟩, ⟨some 25, .load 3 (.tmp 24), 3, none, true⟩, ⟨some 26, .call (⟨.value (.func 39), #[.tmp 23, .tmp 25], #[22, 3]⟩), 3, none, true⟩, ⟨some 8, .assign (.tmp 26), 3, none, true⟩])
  (.seq (.seq (.region [⟨some 27, .move (.tmp 8), 3, none, true⟩, ⟨some 28, .binOp .eql 3 (.tmp 27) (.const (.int .i64 0)) 3, 4, none, true⟩])
  (.cond (.tmp 28) (.seq (.region [⟨some 6, .assign (.const (.slice none 0 0)), 23, none, true⟩, ⟨some 7, .assign (.const (.int .i64 3)), 28, none, true⟩])
  .ret) .skip))
  (.seq (.seq (.region [⟨some 29, .move (.tmp 8), 3, none, true⟩, ⟨some 30, .binOp .neq 3 (.tmp 29) (.const (.int .i64 1)) 3, 4, none, true⟩])
  (.cond (.tmp 30) (.seq (.region [⟨some 6, .assign (.const (.slice none 0 0)), 23, none, true⟩, ⟨some 7, .assign (.const (.int .i64 7)), 28, none, true⟩])
  .ret) .skip))
  (.seq (.seq (.region [⟨some 32, .move (.tmp 1), 23, none, true⟩, ⟨some 33, .fieldAddr 25 (.tmp 5) 0, 0, none, true⟩, ⟨some 34, .load 3 (.tmp 33), 3, none, true⟩, ⟨some 35, .call (⟨.value (.func 41), #[.tmp 32, .tmp 34], #[23, 3]⟩), 36, none, true⟩, ⟨some 31, .move (.tmp 35), 36, none, true⟩, ⟨some 36, .extract (.tmp 31) 0, 25, none, true⟩, ⟨some 37, .extract (.tmp 31) 1, 4, none, true⟩, ⟨some 9, .alloc 25, 0, none, true⟩, ⟨none, .store 25 (.tmp 9) (.tmp 36), 0, none, true⟩, ⟨some 10, .assign (.tmp 37), 4, none, true⟩])
  (.seq (.region [⟨some 38, .move (.tmp 10), 4, none, true⟩, ⟨some 39, .move (.tmp 38), 4, none, true⟩, ⟨some 40, .fieldAddr 25 (.tmp 5) 2, 0, some (some 39), false⟩, ⟨some 41, .load 3 (.tmp 40), 3, some (some 39), false⟩, ⟨some 42, .binOp .eql 3 (.tmp 41) (.const (.int .i64 1)) 3, 4, some (some 39), false⟩, ⟨some 43, .move (.tmp 42), 4, some (some 39), false⟩, ⟨some 44, .move (.tmp 1), 23, some (some 43), true⟩, ⟨some 45, .fieldAddr 25 (.tmp 5) 1, 0, some (some 43), true⟩, ⟨some 46, .load 3 (.tmp 45), 3, some (some 43), true⟩, ⟨some 47, .call (⟨.value (.func 31), #[.tmp 44, .tmp 46], #[23, 3]⟩), 3, some (some 43), true⟩, ⟨some 48, .binOp .neq 3 (.tmp 47) (.const (.int .i64 0)) 3, 4, some (some 43), true⟩, ⟨some 49, .pick (.tmp 43) (.tmp 48) (.const (.bool false)), 4, some (some 39), false⟩, ⟨some 50, .pick (.tmp 39) (.const (.bool true)) (.tmp 49), 4, none, true⟩])
  (.cond (.tmp 50) (.seq (.region [⟨some 6, .assign (.const (.slice none 0 0)), 23, none, true⟩, ⟨some 7, .assign (.const (.int .i64 4)), 28, none, true⟩])
  .ret) .skip)))
  (.seq (.region [⟨some 11, .assign (.const (.slice none 0 0)), 23, none, true⟩])
  (.seq (.region [⟨some 12, .assign (.const (.int .i64 0)), 3, none, true⟩])
  (.seq (.block 0 (.loop [false, true, false, false, false, true, false, false, false, false, false, true, true, false, false, false, false, false, false, false, false, false, false, false, false, false, false, false, false, false, false, false, false, false, false, false, false, false, false, false, false, false, false, false, false, false, false, false, false, false, false, false, false, false, false, false, false, false, false, false, false, false, false, false, false, false, false, false, false, false, false, false, false, false, false, false, false, false, false, false, false] (.seq (.seq (.draw (drawOf T.c21 13) [0, 1, 2, 3, 4, 5, 6, 7, 8, 9, 10, 11, 12, 13] [[], [], [1], [0, 1, 2], [0, 1, 2, 3], [0, 1, 2, 3, 4], [0, 1, 2, 3, 4], [0, 1, 2, 3, 4, 5, 6], [0, 1, 2, 3, 4, 5, 6, 7], [0, 1, 2, 3, 4, 5, 6, 7, 8], [0, 1, 2, 3, 4], [0, 1, 2, 3, 4, 10], [0, 1, 2, 3, 4, 5, 6, 7, 8, 9, 10, 11], [0, 1, 2, 3, 4, 5, 6, 7, 8, 9, 10, 11, 12]])
  (.cond (.tmp 64) .skip (.exit 0)))
  (.block 1 (.region [⟨some 65, .move (.tmp 12), 3, none, true⟩, ⟨some 66, .binOp .add 3 (.tmp 65) (.const (.int .i64 1)) 3, 3, none, true⟩, ⟨some 12, .assign (.tmp 66), 3, none, true⟩])))))
  (.seq (.region [⟨some 67, .move (.tmp 11), 23, none, true⟩, ⟨some 68, .move (.tmp 1), 23, none, true⟩, ⟨some 69, .move (.tmp 12), 3, none, true⟩, ⟨some 70, .slice 23 (.tmp 68) none (some (.tmp 69)) none, 23, none, true⟩, ⟨some 71, .call (⟨.builtin .append, #[.tmp 67, .tmp 70], #[23, 23]⟩), 23, none, true⟩, ⟨some 11, .assign (.tmp 71), 23, none, true⟩])
  (.seq (.region [⟨some 72, .move (.tmp 11), 23, none, true⟩, ⟨some 73, .load 25 (.tmp 5), 25, none, true⟩, ⟨some 74, .buildSlice 23 1 #[(0, .tmp 73)], 23, none, true⟩, ⟨some 75, .call (⟨.builtin .append, #[.tmp 72, .tmp 74], #[23, 23]⟩), 23, none, true⟩, ⟨some 11, .assign (.tmp 75), 23, none, true⟩])
  (.seq (.region [⟨some 76, .move (.tmp 11), 23, none, true⟩, ⟨some 77, .move (.tmp 1), 23, none, true⟩, ⟨some 78, .move (.tmp 12), 3, none, true⟩, ⟨some 79, .slice 23 (.tmp 77) (some (.tmp 78)) none none, 23, none, true⟩, ⟨some 80, .call (⟨.builtin .append, #[.tmp 76, .tmp 79], #[23, 23]⟩), 23, none, true⟩, ⟨some 6, .assign (.tmp 80), 23, none, true⟩, ⟨some 7, .assign (.const (.int .i64 0)), 28, none, true⟩])
  .ret)))))))))))
noncomputable def f21 : AFn := ⟨81, [.tmp 6, .tmp 7], b21⟩
/-- novation/novationref10.Limit -/
noncomputable def b22 : AC :=
  .seq (.region [⟨some 6, .assign (.const (.slice none 0 0)), 23, none, true⟩, ⟨some 7, .assign (.const (.int .i64 0)), 28, none, true⟩])
  (.seq (.seq (.region [⟨some 12, .move (.tmp 0), 23, none, true⟩, ⟨some 13, .call (⟨.value (.func 28), #[.tmp 12], #[23]⟩), 4, none, true⟩, ⟨some 14, .unOp .not 4 (.tmp 13), 4, none, true⟩, ⟨some 15, .move (.tmp 14), 4, none, true⟩, ⟨some 16, .move (.tmp 2), 2, some (some 15), false⟩, ⟨some 17, .binOp .lss 2 (.tmp 16) (.const (.int .i64 0)) 2, 4, some (some 15), false⟩, ⟨some 18, .pick (.tmp 15) (.const (.bool true)) (.tmp 17), 4, none, true⟩, ⟨some 19, .move (.tmp 18), 4, none, true⟩, ⟨some 20, .move (.tmp 2), 2, some (some 19), false⟩, ⟨some 21, .binOp .gtr 2 (.tmp 20) (.const (.int .i64 1000000000000)) 2, 4, some (some 19), false⟩, ⟨some 22, .pick (.tmp 19) (.const (.bool true)) (.tmp 21), 4, none, true⟩])
  (.cond (.tmp 22) (.seq (.region [⟨some 6, .assign (.const (.slice none 0 0)), 23, none, true⟩, ⟨some 7, .assign (.const (.int .i64 1)), 28, none, true⟩])
  .ret) .skip))
  (.seq (.seq (.region [⟨some 24, .move (.tmp 0), 23, none, true⟩, ⟨some 25, .move (.tmp 1), 3, none, true⟩, ⟨some 26, .call (⟨.value (.func 41), #[.tmp 24, .tmp 25], #[23, 3]⟩), 36, none, true⟩, ⟨some 23, .move (.tmp 26), 36, none, true⟩, ⟨some 27, .extract (.tmp 23) 0, 25, none, true⟩, ⟨some 28, .extract (.tmp 23) 1, 4, none, true⟩, ⟨some 8, .alloc 25, 0, none, true⟩, ⟨none, .store 25 (.tmp 8) (.tmp 27), 0, none, true⟩, ⟨some 9, .assign (.tmp 28), 4, none, true⟩])
  (.seq (.region [⟨some 29, .move (.tmp 9), 4, none, true⟩, ⟨some 30, .unOp .not 4 (.tmp 29), 4, none, true⟩])
  (.cond (.tmp 30) (.seq (.region [⟨some 6, .assign (.const (.slice none 0 0)), 23, none, true⟩, ⟨some 7, .assign (.const (.int .i64 3)), 28, none, true⟩])
  .ret) .skip)))
  (.seq (.region [⟨some 31, .buildSlice 23 0 #[], 23, none, true⟩, ⟨some 32, .move (.tmp 0), 23, none, true⟩, ⟨some 33, .call (⟨.builtin .append, #[.tmp 31, .tmp 32], #[23, 23]⟩), 23, none, true⟩, ⟨some 10, .assign (.tmp 33), 23, none, true⟩])
  (.seq (.seq (.region [⟨some 11, .assign (.const (.int .i64 0)), 3, none, true⟩])
  (.block 0 (.loop [false, true, true, false, false, false, false, false, false, false, true, true, false, false, false, false, false, false, false, false, false, false, false, false, false, false, false, false, false, false, false, false, false, false, false, false, false, false, false, false, false, false, false, false, false, false, false, false, false, false, false, false, false] (.seq (.seq (.region [⟨some 34, .move (.tmp 11), 3, none, true⟩, ⟨some 35, .move (.tmp 10), 23, none, true⟩, ⟨some 36, .call (⟨.builtin .len, #[.tmp 35], #[23]⟩), 3, none, true⟩, ⟨some 37, .binOp .lss 3 (.tmp 34) (.tmp 36) 3, 4, none, true⟩])
  (.cond (.tmp 37) .skip (.exit 0)))
  (.seq (.block 1 (.seq (.region [⟨some 40, .move (.tmp 10), 23, none, true⟩, ⟨some 41, .move (.tmp 11), 3, none, true⟩, ⟨some 42, .indexAddr 23 (.tmp 40) (.tmp 41), 0, none, true⟩, ⟨some 43, .fieldAddr 25 (.tmp 42) 0, 0, none, true⟩, ⟨some 44, .load 3 (.tmp 43), 3, none, true⟩, ⟨some 45, .move (.tmp 1), 3, none, true⟩, ⟨some 46, .binOp .eql 3 (.tmp 44) (.tmp 45) 3, 4, none, true⟩])
  (.cond (.tmp 46) (.region [⟨some 47, .move (.tmp 10), 23, none, true⟩, ⟨some 48, .move (.tmp 11), 3, none, true⟩, ⟨some 49, .move (.tmp 2), 2, none, true⟩, ⟨some 50, .indexAddr 23 (.tmp 47) (.tmp 48), 0, none, true⟩, ⟨some 51, .fieldAddr 25 (.tmp 50) 3, 0, none, true⟩, ⟨none, .store 2 (.tmp 51) (.tmp 49), 0, none, true⟩]) .skip)))
  (.region [⟨some 38, .move (.tmp 11), 3, none, true⟩, ⟨some 39, .binOp .add 3 (.tmp 38) (.const (.int .i64 1)) 3, 3, none, true⟩, ⟨some 11, .assign (.tmp 39), 3, none, true⟩]))))))
  (.seq (.region [⟨some 52, .move (.tmp 10), 23, none, true⟩, ⟨some 6, .assign (.tmp 52), 23, none, true⟩, ⟨some 7, .assign (.const (.int .i64 0)), 28, none, true⟩])
  .ret)))))
noncomputable def f22 : AFn := ⟨53, [.tmp 6, .tmp 7], b22⟩
/-- novation/novationref10.PortAcc -/
noncomputable def b23 : AC :=
  .seq (.region [⟨some 8, .assign (.const (.slice none 0 0)), 23, none, true⟩, ⟨some 9, .assign (.const (.int .i64 0)), 28, none, true⟩])
  (.seq (.seq (.region [⟨some 15, .move (.tmp 0), 22, none, true⟩, ⟨some 16, .move (.tmp 1), 23, none, true⟩, ⟨some 17, .call (⟨.value (.func 29), #[.tmp 15, .tmp 16], #[22, 23]⟩), 4, none, true⟩, ⟨some 18, .unOp .not 4 (.tmp 17), 4, none, true⟩])
  (.cond (.tmp 18) (.seq (.region [⟨some 8, .assign (.const (.slice none 0 0)), 23, none, true⟩, ⟨some 9, .assign (.const (.int .i64 1)), 28, none, true⟩])
  .ret) .skip))
  (.seq (.region [⟨some 20, .move (.tmp 1), 23, none, true⟩, ⟨some 21, .move (.tmp 2), 3, none, true⟩, ⟨some 22, .call (⟨.value (.func 41), #[.tmp 20, .tmp 21], #[23, 3]⟩), 36, none, true⟩, ⟨some 19, .move (.tmp 22), 36, none, true⟩, ⟨some 23, .extract (.tmp 19) 0, 25, none, true⟩, ⟨some 24, .extract (.tmp 19) 1, 4, none, true⟩, ⟨some 10, .alloc 25, 0, none, true⟩, ⟨none, .store 25 (.tmp 10) (.tmp 23), 0, none, true⟩, ⟨some 11, .assign (.tmp 24), 4, none, true⟩])
  (.seq (.region [⟨some 25, .move (.tmp 0), 22, none, true⟩, ⟨some 26, .move (.tmp 3), 3, none, true⟩, ⟨some 27, .call (⟨.value (.func 39), #[.tmp 25, .tmp 26], #[22, 3]⟩), 3, none, true⟩, ⟨some 12, .assign (.tmp 27), 3, none, true⟩])
  (.seq (.seq (.region [⟨some 28, .move (.tmp 11), 4, none, true⟩, ⟨some 29, .unOp .not 4 (.tmp 28), 4, none, true⟩, ⟨some 30, .move (.tmp 29), 4, none, true⟩, ⟨some 31, .move (.tmp 12), 3, some (some 30), false⟩, ⟨some 32, .binOp .eql 3 (.tmp 31) (.const (.int .i64 0)) 3, 4, some (some 30), false⟩, ⟨some 33, .pick (.tmp 30) (.const (.bool true)) (.tmp 32), 4, none, true⟩])
  (.cond (.tmp 33) (.seq (.region [⟨some 8, .assign (.const (.slice none 0 0)), 23, none, true⟩, ⟨some 9, .assign (.const (.int .i64 3)), 28, none, true⟩])
  .ret) .skip))
  (.seq (.seq (.region [⟨some 34, .fieldAddr 25 (.tmp 10) 2, 0, none, true⟩, ⟨some 35, .load 3 (.tmp 34), 3, none, true⟩, ⟨some 36, .binOp .neq 3 (.tmp 35) (.const (.int .i64 2)) 3, 4, none, true⟩])
  (.cond (.tmp 36) (.seq (.region [⟨some 8, .assign (.const (.slice none 0 0)), 23, none, true⟩, ⟨some 9, .assign (.const (.int .i64 8)), 28, none, true⟩])
  .ret) .skip))
  (.seq (.seq (.region [⟨some 37, .move (.tmp 12), 3, none, true⟩, ⟨some 38, .binOp .neq 3 (.tmp 37) (.const (.int .i64 1)) 3, 4, none, true⟩])
  (.cond (.tmp 38) (.seq (.region [⟨some 8, .assign (.const (.slice none 0 0)), 23, none, true⟩, ⟨some 9, .assign (.const (.int .i64 7)), 28, none, true⟩])
  .ret) .skip))
  (.seq (.region [⟨some 39, .buildSlice 23 0 #[], 23, none, true⟩, ⟨some 40, .move (.tmp 1), 23, none, true⟩, ⟨some 41, .call (⟨.builtin .append, #[.tmp 39, .tmp 40], #[23, 23]⟩), 23, none, true⟩, ⟨some 13, .assign (.tmp 41), 23, none, true⟩])
  (.seq (.seq (.region [⟨some 14, .assign (.const (.int .i64 0)), 3, none, true⟩])
  (.block 0 (.loop [false, false, true, true, false, false, false, false, false, false, false, false, false, true, true, false, false, false, false, false, false, false, false, false, false, false, false, false, false, false, false, false, false, false, false, false, false, false, false, false, false, false, false, false, false, false, false, false, false, false, false, false, false, false, false, false, false, false, false, false, false] (.seq (.seq (.region [⟨some 42, .move (.tmp 14), 3, none, true⟩, ⟨some 43, .move (.tmp 13), 23, none, true⟩, ⟨some 44, .call (⟨.builtin .len, #[.tmp 43], #[23]⟩), 3, none, true⟩, ⟨some 45, .binOp .lss 3 (.tmp 42) (.tmp 44) 3, 4, none, true⟩])
  (.cond (.tmp 45) .skip (.exit 0)))
  (.seq (.block 1 (.seq (.region [⟨some 48, .move (.tmp 13), 23, none, true⟩, ⟨some 49, .move (.tmp 14), 3, none, true⟩, ⟨some 50, .indexAddr 23 (.tmp 48) (.tmp 49), 0, none, true⟩, ⟨some 51, .fieldAddr 25 (.tmp 50) 0, 0, none, true⟩, ⟨some 52, .load 3 (.tmp 51), 3, none, true⟩, ⟨some 53, .move (.tmp 2), 3, none, true⟩, ⟨some 54, .binOp .eql 3 (.tmp 52) (.tmp 53) 3, 4, none, true⟩])
  (.cond (.tmp 54) (.region [⟨some 55, .move (.tmp 13), 23, none, true⟩, ⟨some 56, .move (.tmp 14), 3, none, true⟩, ⟨some 57, .move (.tmp 3), 3, none, true⟩, ⟨some 58, .indexAddr 23 (.tmp 55) (.tmp 56), 0, none, true⟩, ⟨some 59, .fieldAddr 25 (.tmp 58) 1, 0, none, true⟩, ⟨none, .store 3 (.tmp 59) (.tmp 57), 0, none, true⟩]) .skip)))
  (.region [⟨some 46, .move (.tmp 14), 3, none, true⟩, ⟨some 47, .binOp .add 3 (.tmp 46) (.const (.int .i64 1)) 3, 3, none, true⟩, ⟨some 14, .assign (.tmp 47), 3, none, true⟩]))))))
  (.seq (.region [⟨some 60, .move (.tmp 13), 23, none, true⟩, ⟨some 8, .assign (.tmp 60), 23, none, true⟩, ⟨some 9, .assign (.const (.int .i64 0)), 28, none, true⟩])
  .ret)))))))))
noncomputable def f23 : AFn := ⟨61, [.tmp 8, .tmp 9], b23⟩
/-- novation/novationref10.Find -/
noncomputable def b24 : AC :=
  .seq (.region [⟨some 4, .alloc 25, 0, none, true⟩, ⟨some 5, .assign (.const (.bool false)), 4, none, true⟩])
  (.seq (.seq (.region [⟨some 6, .move (.tmp 0), 23, none, true⟩, ⟨some 7, .call (⟨.value (.func 28), #[.tmp 6], #[23]⟩), 4, none, true⟩, ⟨some 8, .unOp .not 4 (.tmp 7), 4, none, true⟩])
  (.cond (.tmp 8) (.seq (.region [⟨some 9, .build 25 #[], 25, none, true⟩, ⟨none, .store 25 (.tmp 4) (.tmp 9), 0, none, true⟩, ⟨some 5, .assign (.const (.bool false)), 4, none, true⟩])
  .ret) .skip))
  (.seq (.region [⟨some 10, .move (.tmp 0), 23, none, true⟩, ⟨some 11, .move (.tmp 1), 3, none, true⟩, ⟨some 12, .call (⟨.value (.func 41), #[.tmp 10, .tmp 11], #[23, 3]⟩), 36, none, true⟩, ⟨some 13, .extract (.tmp 12) 0, 25, none, true⟩, ⟨some 14, .extract (.tmp 12) 1, 4, none, true⟩, ⟨none, .store 25 (.tmp 4) (.tmp 13), 0, none, true⟩, ⟨some 5, .assign (.tmp 14), 4, none, true⟩])
  .ret))
noncomputable def f24 : AFn := ⟨15, [.cell 4 25, .tmp 5], b24⟩
/-- novation/novationhelp.Members -/
noncomputable def b25 : AC :=
  .seq (.region [⟨some 4, .assign (.const (.bool false)), 4, none, true⟩])
  (.seq (.seq (.region [⟨some 6, .move (.tmp 0), 22, none, true⟩, ⟨some 7, .call (⟨.builtin .len, #[.tmp 6], #[22]⟩), 3, none, true⟩, ⟨some 8, .move (.tmp 1), 22, none, true⟩, ⟨some 9, .call (⟨.builtin .len, #[.tmp 8], #[22]⟩), 3, none, true⟩, ⟨some 10, .binOp .neq 3 (.tmp 7) (.tmp 9) 3, 4, none, true⟩])
  (.cond (.tmp 10) (.seq (.region [⟨some 4, .assign (.const (.bool false)), 4, none, true⟩])
  .ret) .skip))
  (.seq (.seq (.region [⟨some 5, .assign (.const (.int .i64 0)), 3, none, true⟩])
  (.block 0 (.loop [true, true, false, false, false, true, false, false, false, false, false, false, false, false, false, false, false, false, false, false, false, false, false, false, false, false] (.seq (.seq (.region [⟨some 11, .move (.tmp 5), 3, none, true⟩, ⟨some 12, .move (.tmp 0), 22, none, true⟩, ⟨some 13, .call (⟨.builtin .len, #[.tmp 12], #[22]⟩), 3, none, true⟩, ⟨some 14, .binOp .lss 3 (.tmp 11) (.tmp 13) 3, 4, none, true⟩])
  (.cond (.tmp 14) .skip (.exit 0)))
  (.seq (.block 1 (.seq (.draw (drawOf T.c25 6) [0, 1, 2, 3, 4, 5, 6, 7, 8] [[], [], [0, 1], [0, 1, 2], [], [], [4, 5], [4, 5, 6], [0, 1, 2, 3, 4, 5, 6, 7]])
  (.cond (.tmp 25) (.seq (.region [⟨some 4, .assign (.const (.bool false)), 4, none, true⟩])
  .ret) .skip)))
  (.region [⟨some 15, .move (.tmp 5), 3, none, true⟩, ⟨some 16, .binOp .add 3 (.tmp 15) (.const (.int .i64 1)) 3, 3, none, true⟩, ⟨some 5, .assign (.tmp 16), 3, none, true⟩]))))))
  (.seq (.region [⟨some 4, .assign (.const (.bool true)), 4, none, true⟩])
  .ret)))
noncomputable def f25 : AFn := ⟨26, [.tmp 4], b25⟩
/-- novation/novationhelp.Accs -/
noncomputable def b26 : AC :=
  .seq (.region [⟨some 4, .assign (.const (.bool false)), 4, none, true⟩])
  (.seq (.seq (.region [⟨some 6, .move (.tmp 0), 23, none, true⟩, ⟨some 7, .call (⟨.builtin .len, #[.tmp 6], #[23]⟩), 3, none, true⟩, ⟨some 8, .move (.tmp 1), 23, none, true⟩, ⟨some 9, .call (⟨.builtin .len, #[.tmp 8], #[23]⟩), 3, none, true⟩, ⟨some 10, .binOp .neq 3 (.tmp 7) (.tmp 9) 3, 4, none, true⟩])
  (.cond (.tmp 10) (.seq (.region [⟨some 4, .assign (.const (.bool false)), 4, none, true⟩])
  .ret) .skip))
  (.seq (.seq (.region [⟨some 5, .assign (.const (.int .i64 0)), 3, none, true⟩])
  (.block 0 (.loop [true, true, false, false, false, true, false, false, false, false, false, false, false, false, false, false, false, false, false, false, false, false, false, false, false, false] (.seq (.seq (.region [⟨some 11, .move (.tmp 5), 3, none, true⟩, ⟨some 12, .move (.tmp 0), 23, none, true⟩, ⟨some 13, .call (⟨.builtin .len, #[.tmp 12], #[23]⟩), 3, none, true⟩, ⟨some 14, .binOp .lss 3 (.tmp 11) (.tmp 13) 3, 4, none, true⟩])
  (.cond (.tmp 14) .skip (.exit 0)))
  (.seq (.block 1 (.seq (.draw (drawOf T.c26 6) [0, 1, 2, 3, 4, 5, 6, 7, 8] [[], [], [0, 1], [0, 1, 2], [], [], [4, 5], [4, 5, 6], [0, 1, 2, 3, 4, 5, 6, 7]])
  (.cond (.tmp 25) (.seq (.region [⟨some 4, .assign (.const (.bool false)), 4, none, true⟩])
  .ret) .skip)))
  (.region [⟨some 15, .move (.tmp 5), 3, none, true⟩, ⟨some 16, .binOp .add 3 (.tmp 15) (.const (.int .i64 1)) 3, 3, none, true⟩, ⟨some 5, .assign (.tmp 16), 3, none, true⟩]))))))
  (.seq (.region [⟨some 4, .assign (.const (.bool true)), 4, none, true⟩])
  .ret)))
noncomputable def f26 : AFn := ⟨26, [.tmp 4], b26⟩
/-- novation/novationref10.Members -/
noncomputable def b27 : AC :=
  .seq (.region [⟨some 2, .assign (.const (.bool false)), 4, none, true⟩])
  (.seq (.seq (.region [⟨some 3, .assign (.const (.int .i64 0)), 3, none, true⟩])
  (.block 0 (.loop [true, false, false, true, false, false, false, false, false, false, false, false, false, false, false, false, false, false, false, false, false, false, false, false, false, false, false, false, false, false, false, false, false, false, false, false, false, false, false, false, false, false, false, false, false, false, false, false, false, false, false, false, false, false, false, false, false, false] (.seq (.seq (.region [⟨some 4, .move (.tmp 3), 3, none, true⟩, ⟨some 5, .move (.tmp 0), 22, none, true⟩, ⟨some 6, .call (⟨.builtin .len, #[.tmp 5], #[22]⟩), 3, none, true⟩, ⟨some 7, .binOp .lss 3 (.tmp 4) (.tmp 6) 3, 4, none, true⟩])
  (.cond (.tmp 7) .skip (.exit 0)))
  (.seq (.block 1 (.seq (.draw (drawOf T.c27 4) [0, 1, 2, 3, 4, 5, 6, 7, 8, 9, 10, 11, 12, 13, 14, 15, 16, 17, 18, 19, 20, 21, 22, 23, 24, 25, 26, 27, 28, 29, 30, 31, 32, 33, 34, 35, 36, 37, 38, 39, 40, 41, 42, 43, 44, 45, 46, 47] [[], [], [0, 1], [0, 1, 2], [0, 1, 2, 3], [0, 1, 2, 3, 4], [0, 1, 2, 3, 4, 5], [0, 1, 2, 3, 4, 5, 6], [0, 1, 2, 3, 4, 5, 6], [0, 1, 2, 3, 4, 5, 6, 7, 8], [0, 1, 2, 3, 4, 5, 6, 7, 8, 9], [0, 1, 2, 3, 4, 5, 6, 7, 8, 9, 10], [0, 1, 2, 3, 4, 5, 6, 7, 8, 9, 10, 11], [0, 1, 2, 3, 4, 5, 6, 7, 8, 9, 10, 11, 12], [0, 1, 2, 3, 4, 5, 6, 7, 8, 9, 10, 11, 12, 13], [0, 1, 2, 3, 4, 5, 6, 7, 8, 9, 10, 11, 12, 13, 14], [0, 1, 2, 3, 4, 5, 6, 7, 8, 9, 10, 11, 12, 13, 14], [0, 1, 2, 3, 4, 5, 6, 7, 8, 9, 10, 11, 12, 13, 14, 15, 16], [0, 1, 2, 3, 4, 5, 6, 7, 8, 9, 10, 11, 12, 13, 14, 15, 16, 17], [0, 1, 2, 3, 4, 5, 6, 7, 8, 9, 10, 11, 12, 13, 14, 15, 16, 17, 18], [0, 1, 2, 3, 4, 5, 6, 7, 8, 9, 10, 11, 12, 13, 14, 15, 16, 17, 18, 19], [0, 1, 2, 3, 4, 5, 6, 7, 8, 9, 10, 11, 12, 13, 14, 15, 16, 17, 18, 19, 20], [0, 1, 2, 3, 4, 5, 6, 7, 8, 9, 10, 11, 12, 13, 14, 15, 16, 17, 18, 19, 20, 21], [0, 1, 2, 3, 4, 5, 6, 7, 8, 9, 10, 11, 12, 13, 14, 15, 16, 17, 18, 19, 20, 21, 22], [0, 1, 2, 3, 4, 5, 6, 7, 8, 9, 10, 11, 12, 13, 14, 15, 16, 17, 18, 19, 20, 21, 22], [0, 1, 2, 3, 4, 5, 6, 7, 8, 9, 10, 11, 12, 13, 14, 15, 16, 17, 18, 19, 20, 21, 22, 23, 24], [0, 1, 2, 3, 4, 5, 6, 7, 8, 9, 10, 11, 12, 13, 14, 15, 16, 17, 18, 19, 20, 21, 22, 23, 24, 25], [0, 1, 2, 3, 4, 5, 6, 7, 8, 9, 10, 11, 12, 13, 14, 15, 16, 17, 18, 19, 20, 21, 22, 23, 24, 25, 26], [0, 1, 2, 3, 4, 5, 6, 7, 8, 9, 10, 11, 12, 13, 14, 15, 16, 17, 18, 19, 20, 21, 22, 23, 24, 25, 26, 27], [0, 1, 2, 3, 4, 5, 6, 7, 8, 9, 10, 11, 12, 13, 14, 15, 16, 17, 18, 19, 20, 21, 22, 23, 24, 25, 26, 27, 28], [0, 1, 2, 3, 4, 5, 6, 7, 8, 9, 10, 11, 12, 13, 14, 15, 16, 17, 18, 19, 20, 21, 22, 23, 24, 25, 26, 27, 28, 29], [0, 1, 2, 3, 4, 5, 6, 7, 8, 9, 10, 11, 12, 13, 14, 15, 16, 17, 18, 19, 20, 21, 22, 23, 24, 25, 26, 27, 28, 29, 30], [0, 1, 2, 3, 4, 5, 6, 7, 8, 9, 10, 11, 12, 13, 14, 15, 16, 17, 18, 19, 20, 21, 22, 23, 24, 25, 26, 27, 28, 29, 30, 31], [0, 1, 2, 3, 4, 5, 6, 7, 8, 9, 10, 11, 12, 13, 14, 15, 16, 17, 18, 19, 20, 21, 22, 23, 24, 25, 26, 27, 28, 29, 30, 31, 32], [0, 1, 2, 3, 4, 5, 6, 7, 8, 9, 10, 11, 12, 13, 14, 15, 16, 17, 18, 19, 20, 21, 22, 23, 24, 25, 26, 27, 28, 29, 30, 31, 32, 33], [0, 1, 2, 3, 4, 5, 6, 7, 8, 9, 10, 11, 12, 13, 14, 15, 16, 17, 18, 19, 20, 21, 22, 23, 24, 25, 26, 27, 28, 29, 30, 31, 32, 33], [0, 1, 2, 3, 4, 5, 6, 7, 8, 9, 10, 11, 12, 13, 14, 15, 16, 17, 18, 19, 20, 21, 22, 23, 24, 25, 26, 27, 28, 29, 30, 31, 32, 33, 34, 35], [0, 1, 2, 3, 4, 5, 6, 7, 8, 9, 10, 11, 12, 13, 14, 15, 16, 17, 18, 19, 20, 21, 22, 23, 24, 25, 26, 27, 28, 29, 30, 31, 32, 33, 34, 35, 36], [0, 1, 2, 3, 4, 5, 6, 7, 8, 9, 10, 11, 12, 13, 14, 15, 16, 17, 18, 19, 20, 21, 22, 23, 24, 25, 26, 27, 28, 29, 30, 31, 32, 33, 34, 35, 36, 37], [0, 1, 2, 3, 4, 5, 6, 7, 8, 9, 10, 11, 12, 13, 14, 15, 16, 17, 18, 19, 20, 21, 22, 23, 24, 25, 26, 27, 28, 29, 30, 31, 32, 33], [0, 1, 2, 3, 4, 5, 6, 7, 8, 9, 10, 11, 12, 13, 14, 15, 16, 17, 18, 19, 20, 21, 22, 23, 24, 25, 26, 27, 28, 29, 30, 31, 32, 33], [0, 1, 2, 3, 4, 5, 6, 7, 8, 9, 10, 11, 12, 13, 14, 15, 16, 17, 18, 19, 20, 21, 22, 23, 24, 25, 26, 27, 28, 29, 30, 31, 32, 33, 40], [0, 1, 2, 3, 4, 5, 6, 7, 8, 9, 10, 11, 12, 13, 14, 15, 16, 17, 18, 19, 20, 21, 22, 23, 24, 25, 26, 27, 28, 29, 30, 31, 32, 33, 39, 40, 41], [0, 1, 2, 3, 4, 5, 6, 7, 8, 9, 10, 11, 12, 13, 14, 15, 16, 17, 18, 19, 20, 21, 22, 23, 24, 25, 26, 27, 28, 29, 30, 31, 32, 33, 39, 40, 41, 42], [0, 1, 2, 3, 4, 5, 6, 7, 8, 9, 10, 11, 12, 13, 14, 15, 16, 17, 18, 19, 20, 21, 22, 23, 24, 25, 26, 27, 28, 29, 30, 31, 32, 33, 39, 40, 41, 42, 43], [0, 1, 2, 3, 4, 5, 6, 7, 8, 9, 10, 11, 12, 13, 14, 15, 16, 17, 18, 19, 20, 21, 22, 23, 24, 25, 26, 27, 28, 29, 30, 31, 32, 33, 34, 35, 36, 37, 38, 39, 40, 41, 42, 43, 44], [0, 1, 2, 3, 4, 5, 6, 7, 8, 9, 10, 11, 12, 13, 14, 15, 16, 17, 18, 19, 20, 21, 22, 23, 24, 25, 26, 27, 28, 29, 30, 31, 32, 33, 34, 35, 36, 37, 38, 39, 40, 41, 42, 43, 44, 45], [0, 1, 2, 3, 4, 5, 6, 7, 8, 9, 10, 11, 12, 13, 14, 15, 16, 17, 18, 19, 20, 21, 22, 23, 24, 25, 26, 27, 28, 29, 30, 31, 32, 33, 34, 35, 36, 37, 38, 39, 40, 41, 42, 43, 44, 45, 46]])
  (.cond (.tmp 57) (.seq (.region [⟨some 2, .assign (.const (.bool false)), 4, none, true⟩])
  .ret) .skip)))
  (.region [⟨some 8, .move (.tmp 3), 3, none, true⟩, ⟨some 9, .binOp .add 3 (.tmp 8) (.const (.int .i64 1)) 3, 3, none, true⟩, ⟨some 3, .assign (.tmp 9), 3, none, true⟩]))))))
  (.seq (.region [⟨some 2, .assign (.const (.bool true)), 4, none, true⟩])
  .ret))
noncomputable def f27 : AFn := ⟨58, [.tmp 2], b27⟩
/-- novation/novationref10.Accs -/
noncomputable def b28 : AC :=
  .seq (.region [⟨some 2, .assign (.const (.bool false)), 4, none, true⟩])
  (.seq (.seq (.region [⟨some 3, .assign (.const (.int .i64 0)), 3, none, true⟩])
  (.block 0 (.loop [true, false, false, true, false, false, false, false, false, false, false, false, false, false, false, false, false, false, false, false, false, false, false, false, false, false, false, false, false, false, false, false, false, false, false, false, false, false, false, false, false, false, false, false, false, false, false, false, false, false, false, false, false, false, false, false, false, false, false, false, false, false, false, false, false, false, false, false, false, false, false, false, false, false, false, false, false, false, false, false, false, false, false, false, false, false, false, false, false, false, false, false, false, false, false] (.seq (.seq (.region [⟨some 6, .move (.tmp 3), 3, none, true⟩, ⟨some 7, .move (.tmp 0), 23, none, true⟩, ⟨some 8, .call (⟨.builtin .len, #[.tmp 7], #[23]⟩), 3, none, true⟩, ⟨some 9, .binOp .lss 3 (.tmp 6) (.tmp 8) 3, 4, none, true⟩])
  (.cond (.tmp 9) .skip (.exit 0)))
  (.seq (.block 1 (.seq (.region [⟨some 12, .move (.tmp 0), 23, none, true⟩, ⟨some 13, .move (.tmp 3), 3, none, true⟩, ⟨some 14, .indexAddr 23 (.tmp 12) (.tmp 13), 0, none, true⟩, ⟨some 15, .load 25 (.tmp 14), 25, none, true⟩, ⟨some 4, .alloc 25, 0, none, true⟩, ⟨none, .store 25 (.tmp 4) (.tmp 15), 0, none, true⟩])
  (.seq (.seq (.draw (drawOf T.c28 5) [0, 1, 2, 3, 4, 5, 6, 7, 8, 9, 10, 11, 12, 13, 14, 15, 16, 17, 18, 19, 20, 21, 22, 23, 24, 25, 26, 27, 28, 29, 30, 31, 32, 33, 34, 35, 36, 37, 38, 39, 40, 41, 42, 43, 44, 45, 46, 47, 48, 49, 50, 51, 52] [[], [0], [0, 1], [0, 1, 2], [0, 1, 2, 3], [0, 1, 2, 3, 4], [0, 1, 2, 3, 4, 5], [0, 1, 2, 3, 4, 5, 6], [0, 1, 2, 3, 4, 5, 6, 7], [0, 1, 2, 3, 4, 5, 6, 7, 8], [0, 1, 2, 3, 4, 5, 6, 7, 8, 9], [0, 1, 2, 3, 4, 5, 6, 7, 8, 9, 10], [0, 1, 2, 3, 4, 5, 6, 7, 8, 9, 10, 11], [0, 1, 2, 3, 4, 5, 6, 7, 8, 9, 10, 11, 12], [0, 1, 2, 3, 4, 5, 6, 7, 8, 9, 10, 11, 12, 13], [0, 1, 2, 3, 4, 5, 6, 7, 8, 9, 10, 11, 12, 13, 14], [0, 1, 2, 3, 4, 5, 6, 7, 8, 9, 10, 11, 12, 13, 14, 15], [0, 1, 2, 3, 4, 5, 6, 7, 8, 9, 10, 11, 12, 13, 14, 15, 16], [0, 1, 2, 3, 4, 5, 6, 7, 8, 9, 10, 11, 12, 13, 14, 15, 16, 17], [0, 1, 2, 3, 4, 5, 6, 7, 8, 9, 10, 11, 12, 13, 14, 15, 16, 17, 18], [0, 1, 2, 3, 4, 5, 6, 7, 8, 9, 10, 11, 12, 13, 14, 15, 16, 17, 18, 19], [0, 1, 2, 3, 4, 5, 6, 7, 8, 9, 10, 11, 12, 13, 14, 15, 16, 17, 18, 19, 20], [0, 1, 2, 3, 4, 5, 6, 7, 8, 9, 10, 11, 12, 13, 14, 15, 16, 17, 18, 19, 20, 21], [0, 1, 2, 3, 4, 5, 6, 7, 8, 9, 10, 11, 12, 13, 14, 15, 16, 17, 18, 19, 20, 21, 22], [0, 1, 2, 3, 4, 5, 6, 7, 8, 9, 10, 11, 12, 13, 14, 15, 16, 17, 18, 19, 20, 21, 22, 23], [0, 1, 2, 3, 4, 5, 6, 7, 8, 9, 10, 11, 12, 13, 14, 15, 16, 17, 18, 19, 20, 21, 22, 23, 24], [0, 1, 2, 3, 4, 5, 6, 7, 8, 9, 10, 11, 12, 13, 14, 15, 16, 17, 18, 19, 20, 21, 22, 23, 24, 25], [0, 1, 2, 3, 4, 5, 6, 7, 8, 9, 10, 11, 12, 13, 14, 15, 16, 17, 18, 19, 20, 21, 22, 23, 24, 25, 26], [0, 1, 2, 3, 4, 5, 6, 7, 8, 9, 10, 11, 12, 13, 14, 15, 16, 17, 18, 19, 20, 21, 22, 23, 24, 25, 26, 27], [0, 1, 2, 3, 4, 5, 6, 7, 8, 9, 10, 11, 12, 13, 14, 15, 16, 17, 18, 19, 20, 21, 22, 23, 24, 25, 26, 27, 28], [0, 1, 2, 3, 4, 5, 6, 7, 8, 9, 10, 11, 12, 13, 14, 15, 16, 17, 18, 19, 20, 21, 22, 23, 24, 25, 26, 27, 28, 29], [0, 1, 2, 3, 4, 5, 6, 7, 8, 9, 10, 11, 12, 13, 14, 15, 16, 17, 18, 19, 20, 21, 22, 23, 24, 25, 26, 27, 28, 29, 30], [0, 1, 2, 3, 4, 5, 6, 7, 8, 9, 10, 11, 12, 13, 14, 15, 16, 17, 18, 19, 20, 21, 22, 23, 24, 25, 26, 27, 28, 29, 30, 31], [0, 1, 2, 3, 4, 5, 6, 7, 8, 9, 10, 11, 12, 13, 14, 15, 16, 17, 18, 19, 20, 21, 22, 23, 24, 25, 26, 27, 28, 29, 30, 31, 32], [0, 1, 2, 3, 4, 5, 6, 7, 8, 9, 10, 11, 12, 13, 14, 15, 16, 17, 18, 19, 20, 21, 22, 23, 24, 25, 26, 27, 28, 29, 30, 31, 32, 33], [0, 1, 2, 3, 4, 5, 6, 7, 8, 9, 10, 11, 12, 13, 14, 15, 16, 17, 18, 19, 20, 21, 22, 23, 24, 25, 26, 27, 28, 29, 30, 31, 32, 33, 34], [0, 1, 2, 3, 4, 5, 6, 7, 8, 9, 10, 11, 12, 13, 14, 15, 16, 17, 18, 19, 20, 21, 22, 23, 24, 25, 26, 27, 28, 29, 30, 31, 32, 33, 34, 35], [0, 1, 2, 3, 4, 5, 6, 7, 8, 9, 10, 11, 12, 13, 14, 15, 16, 17, 18, 19, 20, 21, 22, 23, 24, 25, 26, 27, 28, 29, 30, 31, 32, 33, 34, 35, 36], [0, 1, 2, 3, 4, 5, 6, 7, 8, 9, 10, 11, 12, 13, 14, 15, 16, 17, 18, 19, 20, 21, 22, 23, 24, 25, 26, 27, 28, 29, 30, 31, 32, 33, 34, 35, 36, 37], [0, 1, 2, 3, 4, 5, 6, 7, 8, 9, 10, 11, 12, 13, 14, 15, 16, 17, 18, 19, 20, 21, 22, 23, 24, 25, 26, 27, 28, 29, 30, 31, 32, 33, 34, 35, 36, 37, 38], [0, 1, 2, 3, 4, 5, 6, 7, 8, 9, 10, 11, 12, 13, 14, 15, 16, 17, 18, 19, 20, 21, 22, 23, 24, 25, 26, 27, 28, 29, 30, 31, 32, 33, 34, 35, 36, 37, 38, 39], [0, 1, 2, 3, 4, 5, 6, 7, 8, 9, 10, 11, 12, 13, 14, 15, 16, 17, 18, 19, 20, 21, 22, 23, 24, 25, 26, 27, 28, 29, 30, 31, 32, 33, 34, 35, 36, 37, 38, 39, 40], [0, 1, 2, 3, 4, 5, 6, 7, 8, 9, 10, 11, 12, 13, 14, 15, 16, 17, 18, 19, 20, 21, 22, 23, 24, 25, 26, 27, 28, 29, 30, 31, 32, 33, 34, 35, 36, 37, 38, 39, 40, 41], [0, 1, 2, 3, 4, 5, 6, 7, 8, 9, 10, 11, 12, 13, 14, 15, 16, 17, 18, 19, 20, 21, 22, 23, 24, 25, 26, 27, 28, 29, 30, 31, 32, 33, 34, 35, 36, 37, 38, 39, 40, 41, 42], [0, 1, 2, 3, 4, 5, 6, 7, 8, 9, 10, 11, 12, 13, 14, 15, 16, 17, 18, 19, 20, 21, 22, 23, 24, 25, 26, 27, 28, 29, 30, 31, 32, 33, 34, 35, 36, 37, 38, 39, 40, 41], [0, 1, 2, 3, 4, 5, 6, 7, 8, 9, 10, 11, 12, 13, 14, 15, 16, 17, 18, 19, 20, 21, 22, 23, 24, 25, 26, 27, 28, 29, 30, 31, 32, 33, 34, 35, 36, 37, 38, 39, 40, 41], [0, 1, 2, 3, 4, 5, 6, 7, 8, 9, 10, 11, 12, 13, 14, 15, 16, 17, 18, 19, 20, 21, 22, 23, 24, 25, 26, 27, 28, 29, 30, 31, 32, 33, 34, 35, 36, 37, 38, 39, 40, 41, 45], [0, 1, 2, 3, 4, 5, 6, 7, 8, 9, 10, 11, 12, 13, 14, 15, 16, 17, 18, 19, 20, 21, 22, 23, 24, 25, 26, 27, 28, 29, 30, 31, 32, 33, 34, 35, 36, 37, 38, 39, 40, 41, 44, 45, 46], [0, 1, 2, 3, 4, 5, 6, 7, 8, 9, 10, 11, 12, 13, 14, 15, 16, 17, 18, 19, 20, 21, 22, 23, 24, 25, 26, 27, 28, 29, 30, 31, 32, 33, 34, 35, 36, 37, 38, 39, 40, 41, 44, 45, 46, 47], [0, 1, 2, 3, 4, 5, 6, 7, 8, 9, 10, 11, 12, 13, 14, 15, 16, 17, 18, 19, 20, 21, 22, 23, 24, 25, 26, 27, 28, 29, 30, 31, 32, 33, 34, 35, 36, 37, 38, 39, 40, 41, 44, 45, 46, 47, 48], [0, 1, 2, 3, 4, 5, 6, 7, 8, 9, 10, 11, 12, 13, 14, 15, 16, 17, 18, 19, 20, 21, 22, 23, 24, 25, 26, 27, 28, 29, 30, 31, 32, 33, 34, 35, 36, 37, 38, 39, 40, 41, 42, 43, 44, 45, 46, 47, 48, 49], [0, 1, 2, 3, 4, 5, 6, 7, 8, 9, 10, 11, 12, 13, 14, 15, 16, 17, 18, 19, 20, 21, 22, 23, 24, 25, 26, 27, 28, 29, 30, 31, 32, 33, 34, 35, 36, 37, 38, 39, 40, 41, 42, 43, 44, 45, 46, 47, 48, 49, 50], [0, 1, 2, 3, 4, 5, 6, 7, 8, 9, 10, 11, 12, 13, 14, 15, 16, 17, 18, 19, 20, 21, 22, 23, 24, 25, 26, 27, 28, 29, 30, 31, 32, 33, 34, 35, 36, 37, 38, 39, 40, 41, 42, 43, 44, 45, 46, 47, 48, 49, 50, 51]])
  (.cond (.tmp 68) (.seq (.region [⟨some 2, .assign (.const (.bool false)), 4, none, true⟩])
  .ret) .skip))
  (.seq (.region [⟨some 5, .assign (.const (.int .i64 0)), 3, none, true⟩])
  (.block 2 (.loop [true, false, false, true, true, true, false, false, false, false, false, false, false, false, false, false, false, false, false, false, false, false, false, false, false, false, false, false, false, false, false, false, false, false, false, false, false, false, false, false, false, false, false, false, false, false, false, false, false, false, false, false, false, false, false, false, false, false, false, false, false, false, false, false, false, false, false, false, false, false, false, false, false, false, false, false, false, false, false, false, false, false, false, false, false, false, false, false, false, false, false, false, false, false, false] (.seq (.seq (.region [⟨some 69, .move (.tmp 5), 3, none, true⟩, ⟨some 70, .move (.tmp 3), 3, none, true⟩, ⟨some 71, .binOp .lss 3 (.tmp 69) (.tmp 70) 3, 4, none, true⟩])
  (.cond (.tmp 71) .skip (.exit 2)))
  (.seq (.block 3 (.seq (.draw (drawOf T.c28 10) [0, 1, 2, 3, 4, 5, 6, 7, 8, 9, 10, 11, 12, 13, 14, 15, 16, 17, 18, 19, 20] [[], [0], [0, 1], [0, 1, 2], [0, 1, 2, 3], [0, 1, 2, 3], [0, 1, 2, 3, 4, 5], [0, 1, 2, 3, 4, 5, 6], [0, 1, 2, 3, 4, 5, 6, 7], [0, 1, 2, 3, 4, 5, 6, 7, 8], [0, 1, 2, 3, 4, 5, 6, 7, 8, 9], [0, 1, 2, 3, 4, 5, 6, 7, 8, 9, 10], [0, 1, 2, 3, 4, 5, 6, 7, 8, 9, 10, 11], [0, 1, 2, 3, 4, 5, 6, 7, 8, 9, 10, 11], [0, 1, 2, 3, 4, 5, 6, 7, 8, 9, 10, 11, 12, 13], [0, 1, 2, 3, 4, 5, 6, 7, 8, 9, 10, 11, 12, 13, 14], [0, 1, 2, 3, 4, 5, 6, 7, 8, 9, 10, 11, 12, 13, 14, 15], [0, 1, 2, 3, 4, 5, 6, 7, 8, 9, 10, 11], [0, 1, 2, 3, 4, 5, 6, 7, 8, 9, 10, 11, 17], [0, 1, 2, 3, 4, 5, 6, 7, 8, 9, 10, 11, 12, 13, 14, 15, 16, 17, 18], [0, 1, 2, 3, 4, 5, 6, 7, 8, 9, 10, 11, 12, 13, 14, 15, 16, 17, 18, 19]])
  (.cond (.tmp 94) (.seq (.region [⟨some 2, .assign (.const (.bool false)), 4, none, true⟩])
  .ret) .skip)))
  (.region [⟨some 72, .move (.tmp 5), 3, none, true⟩, ⟨some 73, .binOp .add 3 (.tmp 72) (.const (.int .i64 1)) 3, 3, none, true⟩, ⟨some 5, .assign (.tmp 73), 3, none, true⟩])))))))))
  (.region [⟨some 10, .move (.tmp 3), 3, none, true⟩, ⟨some 11, .binOp .add 3 (.tmp 10) (.const (.int .i64 1)) 3, 3, none, true⟩, ⟨some 3, .assign (.tmp 11), 3, none, true⟩]))))))
  (.seq (.region [⟨some 2, .assign (.const (.bool true)), 4, none, true⟩])
  .ret))
noncomputable def f28 : AFn := ⟨95, [.tmp 2], b28⟩
/-- novation/novationref10.RightRoll -/
noncomputable def b29 : AC :=
  .seq (.region [⟨some 4, .assign (.const (.bool false)), 4, none, true⟩])
  (.seq (.seq (.region [⟨some 6, .move (.tmp 0), 22, none, true⟩, ⟨some 7, .call (⟨.value (.func 27), #[.tmp 6], #[22]⟩), 4, none, true⟩, ⟨some 8, .unOp .not 4 (.tmp 7), 4, none, true⟩, ⟨some 9, .move (.tmp 8), 4, none, true⟩, ⟨some 10, .move (.tmp 1), 23, some (some 9), false⟩, ⟨some 11, .call (⟨.value (.func 28), #[.tmp 10], #[23]⟩), 4, some (some 9), false⟩, ⟨some 12, .unOp .not 4 (.tmp 11), 4, some (some 9), false⟩, ⟨some 13, .pick (.tmp 9) (.const (.bool true)) (.tmp 12), 4, none, true⟩])
  (.cond (.tmp 13) (.seq (.region [⟨some 4, .assign (.const (.bool false)), 4, none, true⟩])
  .ret) .skip))
  (.seq (.seq (.region [⟨some 5, .assign (.const (.int .i64 0)), 3, none, true⟩])
  (.block 0 (.loop [true, true, false, false, false, true, false, false, false, false, false, false, false, false, false, false, false, false, false, false, false, false, false, false, false, false, false, false] (.seq (.seq (.region [⟨some 14, .move (.tmp 5), 3, none, true⟩, ⟨some 15, .move (.tmp 1), 23, none, true⟩, ⟨some 16, .call (⟨.builtin .len, #[.tmp 15], #[23]⟩), 3, none, true⟩, ⟨some 17, .binOp .lss 3 (.tmp 14) (.tmp 16) 3, 4, none, true⟩])
  (.cond (.tmp 17) .skip (.exit 0)))
  (.seq (.block 1 (.seq (.region [⟨some 20, .move (.tmp 0), 22, none, true⟩, ⟨some 21, .move (.tmp 1), 23, none, true⟩, ⟨some 22, .move (.tmp 5), 3, none, true⟩, ⟨some 23, .indexAddr 23 (.tmp 21) (.tmp 22), 0, none, true⟩, ⟨some 24, .fieldAddr 25 (.tmp 23) 1, 0, none, true⟩, ⟨some 25, .load 3 (.tmp 24), 3, none, true⟩, ⟨some 26, .call (⟨.value (.func 39), #[.tmp 20, .tmp 25], #[22, 3]⟩), 3, none, true⟩, ⟨some 27, .binOp .eql 3 (.tmp 26) (.const (.int .i64 0)) 3, 4, none, true⟩])
  (.cond (.tmp 27) (.seq (.region [⟨some 4, .assign (.const (.bool false)), 4, none, true⟩])
  .ret) .skip)))
  (.region [⟨some 18, .move (.tmp 5), 3, none, true⟩, ⟨some 19, .binOp .add 3 (.tmp 18) (.const (.int .i64 1)) 3, 3, none, true⟩, ⟨some 5, .assign (.tmp 19), 3, none, true⟩]))))))
  (.seq (.region [⟨some 4, .assign (.const (.bool true)), 4, none, true⟩])
  .ret)))
noncomputable def f29 : AFn := ⟨28, [.tmp 4], b29⟩
/-- novation/novationref10.Status -/
noncomputable def b30 : AC :=
  .seq (.region [⟨some 4, .assign (.const (.int .i64 0)), 3, none, true⟩])
  (.seq (.seq (.region [⟨some 5, .move (.tmp 0), 22, none, true⟩, ⟨some 6, .call (⟨.value (.func 27), #[.tmp 5], #[22]⟩), 4, none, true⟩, ⟨some 7, .unOp .not 4 (.tmp 6), 4, none, true⟩])
  (.cond (.tmp 7) (.seq (.region [⟨some 4, .assign (.const (.int .i64 0)), 3, none, true⟩])
  .ret) .skip))
  (.seq (.region [⟨some 8, .move (.tmp 0), 22, none, true⟩, ⟨some 9, .move (.tmp 1), 3, none, true⟩, ⟨some 10, .call (⟨.value (.func 39), #[.tmp 8, .tmp 9], #[22, 3]⟩), 3, none, true⟩, ⟨some 4, .assign (.tmp 10), 3, none, true⟩])
  .ret))
noncomputable def f30 : AFn := ⟨11, [.tmp 4], b30⟩
/-- novation/novationref10.House -/
noncomputable def b31 : AC :=
  .seq (.region [⟨some 4, .assign (.const (.int .i64 0)), 3, none, true⟩])
  (.seq (.seq (.region [⟨some 6, .move (.tmp 0), 23, none, true⟩, ⟨some 7, .call (⟨.value (.func 28), #[.tmp 6], #[23]⟩), 4, none, true⟩, ⟨some 8, .unOp .not 4 (.tmp 7), 4, none, true⟩])
  (.cond (.tmp 8) (.seq (.region [⟨some 4, .assign (.const (.int .i64 0)), 3, none, true⟩])
  .ret) .skip))
  (.seq (.seq (.region [⟨some 5, .assign (.const (.int .i64 0)), 3, none, true⟩])
  (.block 0 (.loop [true, true, false, false, false, true, false, false, false, false, false, false, false, false, false, false, false, false, false, false, false, false, false, false, false, false, false, false, false, false, false, false, false, false, false] (.seq (.seq (.region [⟨some 9, .move (.tmp 5), 3, none, true⟩, ⟨some 10, .move (.tmp 0), 23, none, true⟩, ⟨some 11, .call (⟨.builtin .len, #[.tmp 10], #[23]⟩), 3, none, true⟩, ⟨some 12, .binOp .lss 3 (.tmp 9) (.tmp 11) 3, 4, none, true⟩])
  (.cond (.tmp 12) .skip (.exit 0)))
  (.seq (.block 1 (.seq (.region [⟨some 15, .move (.tmp 0), 23, none, true⟩, ⟨some 16, .move (.tmp 5), 3, none, true⟩, ⟨some 17, .indexAddr 23 (.tmp 15) (.tmp 16), 0, none, true⟩, ⟨some 18, .fieldAddr 25 (.tmp 17) 1, 0, none, true⟩, ⟨some 19, .load 3 (.tmp 18), 3, none, true⟩, ⟨some 20, .move (.tmp 1), 3, none, true⟩, ⟨some 21, .binOp .eql 3 (.tmp 19) (.tmp 20) 3, 4, none, true⟩, ⟨some 22, .move (.tmp 21), 4, none, true⟩, ⟨some 23, .move (.tmp 0), 23, some (some 22), true⟩, ⟨some 24, .move (.tmp 5), 3, some (some 22), true⟩, ⟨some 25, .indexAddr 23 (.tmp 23) (.tmp 24), 0, some (some 22), true⟩, ⟨some 26, .fieldAddr 25 (.tmp 25) 2, 0, some (some 22), true⟩, ⟨some 27, .load 3 (.tmp 26), 3, some (some 22), true⟩, ⟨some 28, .binOp .eql 3 (.tmp 27) (.const (.int .i64 1)) 3, 4, some (some 22), true⟩, ⟨some 29, .pick (.tmp 22) (.tmp 28) (.const (.bool false)), 4, none, true⟩])
  (.cond (.tmp 29) (.seq (.region [⟨some 30, .move (.tmp 0), 23, none, true⟩, ⟨some 31, .move (.tmp 5), 3, none, true⟩, ⟨some 32, .indexAddr 23 (.tmp 30) (.tmp 31), 0, none, true⟩, ⟨some 33, .fieldAddr 25 (.tmp 32) 0, 0, none, true⟩, ⟨some 34, .load 3 (.tmp 33), 3, none, true⟩, ⟨some 4, .assign (.tmp 34), 3, none, true⟩])
  .ret) .skip)))
  (.region [⟨some 13, .move (.tmp 5), 3, none, true⟩, ⟨some 14, .binOp .add 3 (.tmp 13) (.const (.int .i64 1)) 3, 3, none, true⟩, ⟨some 5, .assign (.tmp 14), 3, none, true⟩]))))))
  (.seq (.region [⟨some 4, .assign (.const (.int .i64 0)), 3, none, true⟩])
  .ret)))
noncomputable def f31 : AFn := ⟨35, [.tmp 4], b31⟩
/-- novation/novationref10.Owned -/
noncomputable def b32 : AC :=
  .seq (.region [⟨some 4, .assign (.const (.slice none 0 0)), 42, none, true⟩])
  (.seq (.region [⟨some 5, .assign (.const (.slice none 0 0)), 42, none, true⟩])
  (.seq (.seq (.region [⟨some 7, .move (.tmp 0), 23, none, true⟩, ⟨some 8, .call (⟨.value (.func 28), #[.tmp 7], #[23]⟩), 4, none, true⟩, ⟨some 9, .unOp .not 4 (.tmp 8), 4, none, true⟩])
  (.cond (.tmp 9) (.seq (.region [⟨some 10, .move (.tmp 5), 42, none, true⟩, ⟨some 4, .assign (.tmp 10), 42, none, true⟩])
  .ret) .skip))
  (.seq (.seq (.region [⟨some 6, .assign (.const (.int .i64 0)), 3, none, true⟩])
  (.block 0 (.loop [true, true, false, false, false, true, true, false, false, false, false, false, false, false, false, false, false, false, false, false, false, false, false, false, false, false, false, false, false, false, false, false, false] (.seq (.seq (.region [⟨some 11, .move (.tmp 6), 3, none, true⟩, ⟨some 12, .move (.tmp 0), 23, none, true⟩, ⟨some 13, .call (⟨.builtin .len, #[.tmp 12], #[23]⟩), 3, none, true⟩, ⟨some 14, .binOp .lss 3 (.tmp 11) (.tmp 13) 3, 4, none, true⟩])
  (.cond (.tmp 14) .skip (.exit 0)))
  (.seq (.block 1 (.seq (.region [⟨some 17, .move (.tmp 0), 23, none, true⟩, ⟨some 18, .move (.tmp 6), 3, none, true⟩, ⟨some 19, .indexAddr 23 (.tmp 17) (.tmp 18), 0, none, true⟩, ⟨some 20, .fieldAddr 25 (.tmp 19) 1, 0, none, true⟩, ⟨some 21, .load 3 (.tmp 20), 3, none, true⟩, ⟨some 22, .move (.tmp 1), 3, none, true⟩, ⟨some 23, .binOp .eql 3 (.tmp 21) (.tmp 22) 3, 4, none, true⟩])
  (.cond (.tmp 23) (.region [⟨some 24, .move (.tmp 5), 42, none, true⟩, ⟨some 25, .move (.tmp 0), 23, none, true⟩, ⟨some 26, .move (.tmp 6), 3, none, true⟩, ⟨some 27, .indexAddr 23 (.tmp 25) (.tmp 26), 0, none, true⟩, ⟨some 28, .fieldAddr 25 (.tmp 27) 0, 0, none, true⟩, ⟨some 29, .load 3 (.tmp 28), 3, none, true⟩, ⟨some 30, .buildSlice 42 1 #[(0, .tmp 29)], 42, none, true⟩, ⟨some 31, .call (⟨.builtin .append, #[.tmp 24, .tmp 30], #[42, 42]⟩), 42, none, true⟩, ⟨some 5, .assign (.tmp 31), 42, none, true⟩]) .skip)))
  (.region [⟨some 15, .move (.tmp 6), 3, none, true⟩, ⟨some 16, .binOp .add 3 (.tmp 15) (.const (.int .i64 1)) 3, 3, none, true⟩, ⟨some 6, .assign (.tmp 16), 3, none, true⟩]))))))
  (.seq (.region [⟨some 32, .move (.tmp 5), 42, none, true⟩, ⟨some 4, .assign (.tmp 32), 42, none, true⟩])
  .ret))))
noncomputable def f32 : AFn := ⟨33, [.tmp 4], b32⟩
/-- novation/standing.Next -/
noncomputable def b33 : AC :=
  .seq (.region [⟨some 4, .assign (.const (.int .i64 0)), 3, none, true⟩, ⟨some 5, .assign (.const (.bool false)), 4, none, true⟩])
  (.seq (.block 0 (.seq (.seq (.region [⟨some 7, .move (.tmp 0), 3, none, true⟩, ⟨some 8, .binOp .eql 3 (.tmp 7) (.const (.int .i64 0)) 3, 4, none, true⟩, ⟨some 9, .move (.tmp 8), 4, none, true⟩, ⟨some 10, .move (.tmp 1), 3, some (some 9), true⟩, ⟨some 11, .binOp .eql 3 (.tmp 10) (.const (.int .i64 1)) 3, 4, some (some 9), true⟩, ⟨some 12, .pick (.tmp 9) (.tmp 11) (.const (.bool false)), 4, none, true⟩, ⟨some 6, .assign (.tmp 12), 4, none, true⟩])
  (.cond (.tmp 6) .skip (.region [⟨some 13, .move (.tmp 0), 3, none, true⟩, ⟨some 14, .binOp .eql 3 (.tmp 13) (.const (.int .i64 2)) 3, 4, none, true⟩, ⟨some 15, .move (.tmp 14), 4, none, true⟩, ⟨some 16, .move (.tmp 1), 3, some (some 15), true⟩, ⟨some 17, .binOp .eql 3 (.tmp 16) (.const (.int .i64 12)) 3, 4, some (some 15), true⟩, ⟨some 18, .pick (.tmp 15) (.tmp 17) (.const (.bool false)), 4, none, true⟩, ⟨some 6, .assign (.tmp 18), 4, none, true⟩])))
  (.cond (.tmp 6) (.seq (.region [⟨some 4, .assign (.const (.int .i64 1)), 3, none, true⟩, ⟨some 5, .assign (.const (.bool true)), 4, none, true⟩])
  .ret) (.seq (.region [⟨some 20, .move (.tmp 0), 3, none, true⟩, ⟨some 21, .binOp .eql 3 (.tmp 20) (.const (.int .i64 1)) 3, 4, none, true⟩, ⟨some 22, .move (.tmp 21), 4, none, true⟩, ⟨some 23, .move (.tmp 1), 3, some (some 22), true⟩, ⟨some 24, .binOp .eql 3 (.tmp 23) (.const (.int .i64 11)) 3, 4, some (some 22), true⟩, ⟨some 25, .pick (.tmp 22) (.tmp 24) (.const (.bool false)), 4, none, true⟩, ⟨some 19, .assign (.tmp 25), 4, none, true⟩])
  (.cond (.tmp 19) (.seq (.region [⟨some 4, .assign (.const (.int .i64 2)), 3, none, true⟩, ⟨some 5, .assign (.const (.bool true)), 4, none, true⟩])
  .ret) (.seq (.region [⟨some 27, .move (.tmp 0), 3, none, true⟩, ⟨some 28, .binOp .eql 3 (.tmp 27) (.const (.int .i64 2)) 3, 4, none, true⟩, ⟨some 29, .move (.tmp 28), 4, none, true⟩, ⟨some 30, .move (.tmp 1), 3, some (some 29), true⟩, ⟨some 31, .binOp .eql 3 (.tmp 30) (.const (.int .i64 13)) 3, 4, some (some 29), true⟩, ⟨some 32, .pick (.tmp 29) (.tmp 31) (.const (.bool false)), 4, none, true⟩, ⟨some 26, .assign (.tmp 32), 4, none, true⟩])
  (.cond (.tmp 26) (.seq (.region [⟨some 4, .assign (.const (.int .i64 3)), 3, none, true⟩, ⟨some 5, .assign (.const (.bool true)), 4, none, true⟩])
  .ret) (.seq (.region [⟨some 34, .move (.tmp 0), 3, none, true⟩, ⟨some 35, .binOp .eql 3 (.tmp 34) (.const (.int .i64 3)) 3, 4, none, true⟩, ⟨some 36, .move (.tmp 35), 4, none, true⟩, ⟨some 37, .move (.tmp 1), 3, some (some 36), true⟩, ⟨some 38, .binOp .eql 3 (.tmp 37) (.const (.int .i64 21)) 3, 4, some (some 36), true⟩, ⟨some 39, .pick (.tmp 36) (.tmp 38) (.const (.bool false)), 4, none, true⟩, ⟨some 33, .assign (.tmp 39), 4, none, true⟩])
  (.cond (.tmp 33) (.seq (.region [⟨some 4, .assign (.const (.int .i64 4)), 3, none, true⟩, ⟨some 5, .assign (.const (.bool true)), 4, none, true⟩])
  .ret) .skip)))))))))
  (.seq (.region [⟨some 4, .assign (.const (.int .i64 0)), 3, none, true⟩, ⟨some 5, .assign (.const (.bool false)), 4, none, true⟩])
  .ret))
noncomputable def f33 : AFn := ⟨40, [.tmp 4, .tmp 5], b33⟩
/-- slices.Insert[[]novation/api.Member,novation/api.Member] -/
noncomputable def b34 : AC :=
  .seq (.region [⟨some 6, .assign (.const (.slice none 0 0)), 22, none, true⟩])
  (.seq (.region [⟨some 10, .move (.tmp 0), 22, none, true⟩, ⟨some 11, .move (.tmp 1), 3, none, true⟩, ⟨some 12, .slice 22 (.tmp 10) (some (.tmp 11)) none none, 22, none, true⟩])
  (.seq (.region [⟨some 13, .move (.tmp 2), 22, none, true⟩, ⟨some 14, .call (⟨.builtin .len, #[.tmp 13], #[22]⟩), 3, none, true⟩, ⟨some 7, .assign (.tmp 14), 3, none, true⟩])
  (.seq (.seq (.region [⟨some 15, .move (.tmp 7), 3, none, true⟩, ⟨some 16, .binOp .eql 3 (.tmp 15) (.const (.int .i64 0)) 3, 4, none, true⟩])
  (.cond (.tmp 16) (.seq (.region [⟨some 17, .move (.tmp 0), 22, none, true⟩, ⟨some 6, .assign (.tmp 17), 22, none, true⟩])
  .ret) .skip))
  (.seq (.region [⟨some 18, .move (.tmp 0), 22, none, true⟩, ⟨some 19, .call (⟨.builtin .len, #[.tmp 18], #[22]⟩), 3, none, true⟩, ⟨some 8, .assign (.tmp 19), 3, none, true⟩])
  (.seq (.seq (.region [⟨some 20, .move (.tmp 1), 3, none, true⟩, ⟨some 21, .move (.tmp 8), 3, none, true⟩, ⟨some 22, .binOp .eql 3 (.tmp 20) (.tmp 21) 3, 4, none, true⟩])
  (.cond (.tmp 22) (.seq (.region [⟨some 23, .move (.tmp 0), 22, none, true⟩, ⟨some 24, .move (.tmp 2), 22, none, true⟩, ⟨some 25, .call (⟨.builtin .append, #[.tmp 23, .tmp 24], #[22, 22]⟩), 22, none, true⟩, ⟨some 6, .assign (.tmp 25), 22, none, true⟩])
  .ret) .skip))
  (.seq (.seq (.region [⟨some 26, .move (.tmp 8), 3, none, true⟩, ⟨some 27, .move (.tmp 7), 3, none, true⟩, ⟨some 28, .binOp .add 3 (.tmp 26) (.tmp 27) 3, 3, none, true⟩, ⟨some 29, .move (.tmp 0), 22, none, true⟩, ⟨some 30, .call (⟨.builtin .cap, #[.tmp 29], #[22]⟩), 3, none, true⟩, ⟨some 31, .binOp .gtr 3 (.tmp 28) (.tmp 30) 3, 4, none, true⟩])
  (.cond (.tmp 31) (.seq (.region [⟨some 32, .move (.tmp 0), 22, none, true⟩, ⟨some 33, .move (.tmp 1), 3, none, true⟩, ⟨some 34, .slice 22 (.tmp 32) none (some (.tmp 33)) none, 22, none, true⟩, ⟨some 35, .move (.tmp 8), 3, none, true⟩, ⟨some 36, .move (.tmp 7), 3, none, true⟩, ⟨some 37, .binOp .add 3 (.tmp 35) (.tmp 36) 3, 3, none, true⟩, ⟨some 38, .move (.tmp 1), 3, none, true⟩, ⟨some 39, .binOp .sub 3 (.tmp 37) (.tmp 38) 3, 3, none, true⟩, ⟨some 40, .call (⟨.builtin .append, #[.tmp 34, .tmp 39], #[22, 3]⟩), 22, none, true⟩, ⟨some 9, .assign (.tmp 40), 22, none, true⟩])
  (.seq (.region [⟨some 41, .move (.tmp 9), 22, none, true⟩, ⟨some 42, .move (.tmp 1), 3, none, true⟩, ⟨some 43, .slice 22 (.tmp 41) (some (.tmp 42)) none none, 22, none, true⟩, ⟨some 44, .move (.tmp 2), 22, none, true⟩, ⟨some 45, .call (⟨.builtin .copy, #[.tmp 43, .tmp 44], #[22, 22]⟩), 3, none, true⟩])
  (.seq (.draw (drawOf T.c34 11) [0, 1, 2, 3, 4, 5, 6, 7, 8] [[], [], [], [1, 2], [0, 1, 2, 3], [], [], [5, 6], [0, 1, 2, 3, 4, 5, 6, 7]])
  (.seq (.region [⟨some 55, .move (.tmp 9), 22, none, true⟩, ⟨some 6, .assign (.tmp 55), 22, none, true⟩])
  .ret)))) .skip))
  (.seq (.region [⟨some 56, .move (.tmp 0), 22, none, true⟩, ⟨some 57, .move (.tmp 8), 3, none, true⟩, ⟨some 58, .move (.tmp 7), 3, none, true⟩, ⟨some 59, .binOp .add 3 (.tmp 57) (.tmp 58) 3, 3, none, true⟩, ⟨some 60, .slice 22 (.tmp 56) none (some (.tmp 59)) none, 22, none, true⟩, ⟨some 0, .assign (.tmp 60), 22, none, true⟩])
  (.seq (.seq (.region [⟨some 61, .move (.tmp 2), 22, none, true⟩, ⟨some 62, .move (.tmp 0), 22, none, true⟩, ⟨some 63, .move (.tmp 1), 3, none, true⟩, ⟨some 64, .move (.tmp 7), 3, none, true⟩, ⟨some 65, .binOp .add 3 (.tmp 63) (.tmp 64) 3, 3, none, true⟩, ⟨some 66, .slice 22 (.tmp 62) (some (.tmp 65)) none none, 22, none, true⟩, ⟨some 67, .call (⟨.value (.func 42), #[.tmp 61, .tmp 66], #[22, 22]⟩), 4, none, true⟩, ⟨some 68, .unOp .not 4 (.tmp 67), 4, none, true⟩])
  (.cond (.tmp 68) (.seq (.draw (drawOf T.c34 15) [0, 1, 2, 3, 4, 5, 6, 7, 8] [[], [], [], [1, 2], [0, 1, 2, 3], [], [], [5, 6], [0, 1, 2, 3, 4, 5, 6, 7]])
  (.seq (.region [⟨some 78, .move (.tmp 0), 22, none, true⟩, ⟨some 79, .move (.tmp 1), 3, none, true⟩, ⟨some 80, .slice 22 (.tmp 78) (some (.tmp 79)) none none, 22, none, true⟩, ⟨some 81, .move (.tmp 2), 22, none, true⟩, ⟨some 82, .call (⟨.builtin .copy, #[.tmp 80, .tmp 81], #[22, 22]⟩), 3, none, true⟩])
  (.seq (.region [⟨some 83, .move (.tmp 0), 22, none, true⟩, ⟨some 6, .assign (.tmp 83), 22, none, true⟩])
  .ret))) .skip))
  (.seq (.region [⟨some 84, .move (.tmp 0), 22, none, true⟩, ⟨some 85, .move (.tmp 8), 3, none, true⟩, ⟨some 86, .slice 22 (.tmp 84) (some (.tmp 85)) none none, 22, none, true⟩, ⟨some 87, .move (.tmp 2), 22, none, true⟩, ⟨some 88, .call (⟨.builtin .copy, #[.tmp 86, .tmp 87], #[22, 22]⟩), 3, none, true⟩])
  (.seq (.region [⟨some 89, .move (.tmp 0), 22, none, true⟩, ⟨some 90, .move (.tmp 1), 3, none, true⟩, ⟨some 91, .slice 22 (.tmp 89) (some (.tmp 90)) none none, 22, none, true⟩, ⟨some 92, .move (.tmp 7), 3, none, true⟩, ⟨some 93, .call (⟨.value (.func 43), #[.tmp 91, .tmp 92], #[22, 3]⟩), 0, none, true⟩])
  (.seq (.region [⟨some 94, .move (.tmp 0), 22, none, true⟩, ⟨some 6, .assign (.tmp 94), 22, none, true⟩])
  .ret)))))))))))
noncomputable def f34 : AFn := ⟨95, [.tmp 6], b34⟩
/-- slices.Clone[[]novation/api.Member,novation/api.Member] -/
noncomputable def b35 : AC :=
  .seq (.region [⟨some 2, .assign (.const (.slice none 0 0)), 22, none, true⟩])
  (.seq (.seq (.region [⟨some 3, .move (.tmp 0), 22, none, true⟩, ⟨some 4, .binOp .eql 22 (.tmp 3) (.const (.slice none 0 0)) 22, 4, none, true⟩])
  (.cond (.tmp 4) (.seq (.region [⟨some 2, .assign (.const (.slice none 0 0)), 22, none, true⟩])
  .ret) .skip))
  (.seq (.region [⟨some 5, .buildSlice 22 0 #[], 22, none, true⟩, ⟨some 6, .move (.tmp 0), 22, none, true⟩, ⟨some 7, .call (⟨.builtin .append, #[.tmp 5, .tmp 6], #[22, 22]⟩), 22, none, true⟩, ⟨some 2, .assign (.tmp 7), 22, none, true⟩])
  .ret))
noncomputable def f35 : AFn := ⟨8, [.tmp 2], b35⟩
/-- slices.Insert[[]novation/api.Acc,novation/api.Acc] -/
noncomputable def b36 : AC :=
  .seq (.region [⟨some 6, .assign (.const (.slice none 0 0)), 23, none, true⟩])
  (.seq (.region [⟨some 10, .move (.tmp 0), 23, none, true⟩, ⟨some 11, .move (.tmp 1), 3, none, true⟩, ⟨some 12, .slice 23 (.tmp 10) (some (.tmp 11)) none none, 23, none, true⟩])
  (.seq (.region [⟨some 13, .move (.tmp 2), 23, none, true⟩, ⟨some 14, .call (⟨.builtin .len, #[.tmp 13], #[23]⟩), 3, none, true⟩, ⟨some 7, .assign (.tmp 14), 3, none, true⟩])
  (.seq (.seq (.region [⟨some 15, .move (.tmp 7), 3, none, true⟩, ⟨some 16, .binOp .eql 3 (.tmp 15) (.const (.int .i64 0)) 3, 4, none, true⟩])
  (.cond (.tmp 16) (.seq (.region [⟨some 17, .move (.tmp 0), 23, none, true⟩, ⟨some 6, .assign (.tmp 17), 23, none, true⟩])
  .ret) .skip))
  (.seq (.region [⟨some 18, .move (.tmp 0), 23, none, true⟩, ⟨some 19, .call (⟨.builtin .len, #[.tmp 18], #[23]⟩), 3, none, true⟩, ⟨some 8, .assign (.tmp 19), 3, none, true⟩])
  (.seq (.seq (.region [⟨some 20, .move (.tmp 1), 3, none, true⟩, ⟨some 21, .move (.tmp 8), 3, none, true⟩, ⟨some 22, .binOp .eql 3 (.tmp 20) (.tmp 21) 3, 4, none, true⟩])
  (.cond (.tmp 22) (.seq (.region [⟨some 23, .move (.tmp 0), 23, none, true⟩, ⟨some 24, .move (.tmp 2), 23, none, true⟩, ⟨some 25, .call (⟨.builtin .append, #[.tmp 23, .tmp 24], #[23, 23]⟩), 23, none, true⟩, ⟨some 6, .assign (.tmp 25), 23, none, true⟩])
  .ret) .skip))
  (.seq (.seq (.region [⟨some 26, .move (.tmp 8), 3, none, true⟩, ⟨some 27, .move (.tmp 7), 3, none, true⟩, ⟨some 28, .binOp .add 3 (.tmp 26) (.tmp 27) 3, 3, none, true⟩, ⟨some 29, .move (.tmp 0), 23, none, true⟩, ⟨some 30, .call (⟨.builtin .cap, #[.tmp 29], #[23]⟩), 3, none, true⟩, ⟨some 31, .binOp .gtr 3 (.tmp 28) (.tmp 30) 3, 4, none, true⟩])
  (.cond (.tmp 31) (.seq (.region [⟨some 32, .move (.tmp 0), 23, none, true⟩, ⟨some 33, .move (.tmp 1), 3, none, true⟩, ⟨some 34, .slice 23 (.tmp 32) none (some (.tmp 33)) none, 23, none, true⟩, ⟨some 35, .move (.tmp 8), 3, none, true⟩, ⟨some 36, .move (.tmp 7), 3, none, true⟩, ⟨some 37, .binOp .add 3 (.tmp 35) (.tmp 36) 3, 3, none, true⟩, ⟨some 38, .move (.tmp 1), 3, none, true⟩, ⟨some 39, .binOp .sub 3 (.tmp 37) (.tmp 38) 3, 3, none, true⟩, ⟨some 40, .call (⟨.builtin .append, #[.tmp 34, .tmp 39], #[23, 3]⟩), 23, none, true⟩, ⟨some 9, .assign (.tmp 40), 23, none, true⟩])
  (.seq (.region [⟨some 41, .move (.tmp 9), 23, none, true⟩, ⟨some 42, .move (.tmp 1), 3, none, true⟩, ⟨some 43, .slice 23 (.tmp 41) (some (.tmp 42)) none none, 23, none, true⟩, ⟨some 44, .move (.tmp 2), 23, none, true⟩, ⟨some 45, .call (⟨.builtin .copy, #[.tmp 43, .tmp 44], #[23, 23]⟩), 3, none, true⟩])
  (.seq (.draw (drawOf T.c36 11) [0, 1, 2, 3, 4, 5, 6, 7, 8] [[], [], [], [1, 2], [0, 1, 2, 3], [], [], [5, 6], [0, 1, 2, 3, 4, 5, 6, 7]])
  (.seq (.region [⟨some 55, .move (.tmp 9), 23, none, true⟩, ⟨some 6, .assign (.tmp 55), 23, none, true⟩])
  .ret)))) .skip))
  (.seq (.region [⟨some 56, .move (.tmp 0), 23, none, true⟩, ⟨some 57, .move (.tmp 8), 3, none, true⟩, ⟨some 58, .move (.tmp 7), 3, none, true⟩, ⟨some 59, .binOp .add 3 (.tmp 57) (.tmp 58) 3, 3, none, true⟩, ⟨some 60, .slice 23 (.tmp 56) none (some (.tmp 59)) none, 23, none, true⟩, ⟨some 0, .assign (.tmp 60), 23, none, true⟩])
  (.seq (.seq (.region [⟨some 61, .move (.tmp 2), 23, none, true⟩, ⟨some 62, .move (.tmp 0), 23, none, true⟩, ⟨some 63, .move (.tmp 1), 3, none, true⟩, ⟨some 64, .move (.tmp 7), 3, none, true⟩, ⟨some 65, .binOp .add 3 (.tmp 63) (.tmp 64) 3, 3, none, true⟩, ⟨some 66, .slice 23 (.tmp 62) (some (.tmp 65)) none none, 23, none, true⟩, ⟨some 67, .call (⟨.value (.func 44), #[.tmp 61, .tmp 66], #[23, 23]⟩), 4, none, true⟩, ⟨some 68, .unOp .not 4 (.tmp 67), 4, none, true⟩])
  (.cond (.tmp 68) (.seq (.draw (drawOf T.c36 15) [0, 1, 2, 3, 4, 5, 6, 7, 8] [[], [], [], [1, 2], [0, 1, 2, 3], [], [], [5, 6], [0, 1, 2, 3, 4, 5, 6, 7]])
  (.seq (.region [⟨some 78, .move (.tmp 0), 23, none, true⟩, ⟨some 79, .move (.tmp 1), 3, none, true⟩, ⟨some 80, .slice 23 (.tmp 78) (some (.tmp 79)) none none, 23, none, true⟩, ⟨some 81, .move (.tmp 2), 23, none, true⟩, ⟨some 82, .call (⟨.builtin .copy, #[.tmp 80, .tmp 81], #[23, 23]⟩), 3, none, true⟩])
  (.seq (.region [⟨some 83, .move (.tmp 0), 23, none, true⟩, ⟨some 6, .assign (.tmp 83), 23, none, true⟩])
  .ret))) .skip))
  (.seq (.region [⟨some 84, .move (.tmp 0), 23, none, true⟩, ⟨some 85, .move (.tmp 8), 3, none, true⟩, ⟨some 86, .slice 23 (.tmp 84) (some (.tmp 85)) none none, 23, none, true⟩, ⟨some 87, .move (.tmp 2), 23, none, true⟩, ⟨some 88, .call (⟨.builtin .copy, #[.tmp 86, .tmp 87], #[23, 23]⟩), 3, none, true⟩])
  (.seq (.region [⟨some 89, .move (.tmp 0), 23, none, true⟩, ⟨some 90, .move (.tmp 1), 3, none, true⟩, ⟨some 91, .slice 23 (.tmp 89) (some (.tmp 90)) none none, 23, none, true⟩, ⟨some 92, .move (.tmp 7), 3, none, true⟩, ⟨some 93, .call (⟨.value (.func 45), #[.tmp 91, .tmp 92], #[23, 3]⟩), 0, none, true⟩])
  (.seq (.region [⟨some 94, .move (.tmp 0), 23, none, true⟩, ⟨some 6, .assign (.tmp 94), 23, none, true⟩])
  .ret)))))))))))
noncomputable def f36 : AFn := ⟨95, [.tmp 6], b36⟩
/-- slices.Clone[[]novation/api.Acc,novation/api.Acc] -/
noncomputable def b37 : AC :=
  .seq (.region [⟨some 2, .assign (.const (.slice none 0 0)), 23, none, true⟩])
  (.seq (.seq (.region [⟨some 3, .move (.tmp 0), 23, none, true⟩, ⟨some 4, .binOp .eql 23 (.tmp 3) (.const (.slice none 0 0)) 23, 4, none, true⟩])
  (.cond (.tmp 4) (.seq (.region [⟨some 2, .assign (.const (.slice none 0 0)), 23, none, true⟩])
  .ret) .skip))
  (.seq (.region [⟨some 5, .buildSlice 23 0 #[], 23, none, true⟩, ⟨some 6, .move (.tmp 0), 23, none, true⟩, ⟨some 7, .call (⟨.builtin .append, #[.tmp 5, .tmp 6], #[23, 23]⟩), 23, none, true⟩, ⟨some 2, .assign (.tmp 7), 23, none, true⟩])
  .ret))
noncomputable def f37 : AFn := ⟨8, [.tmp 2], b37⟩
/-- novation/roll.with -/
noncomputable def b38 : AC :=
  .seq (.region [⟨some 3, .box 25 (.tmp 1), 0, none, true⟩, ⟨some 4, .assign (.const (.slice none 0 0)), 23, none, true⟩])
  (.seq (.region [⟨some 7, .move (.tmp 0), 23, none, true⟩, ⟨some 8, .call (⟨.value (.func 37), #[.tmp 7], #[23]⟩), 23, none, true⟩, ⟨some 5, .assign (.tmp 8), 23, none, true⟩])
  (.seq (.seq (.region [⟨some 9, .move (.tmp 5), 23, none, true⟩, ⟨some 10, .call (⟨.builtin .len, #[.tmp 9], #[23]⟩), 3, none, true⟩, ⟨some 11, .move (.const (.int .i64 0)), 3, none, true⟩])
  (.block 0 (.loop [false, false, false, true, false, true, false, false, false, false, true, true, false, false, false, false, false, false, false, false, false, false, false, false, false, false, false, false] (.seq (.region [⟨some 12, .binOp .lss 3 (.tmp 11) (.tmp 10) 3, 0, none, true⟩])
  (.seq (.cond (.tmp 12) .skip (.exit 0))
  (.seq (.block 1 (.seq (.region [⟨some 13, .move (.tmp 11), 3, none, true⟩, ⟨some 6, .assign (.tmp 13), 3, none, true⟩])
  (.seq (.draw (drawOf T.c38 5) [0, 1, 2, 3, 4, 5, 6, 7] [[], [], [0, 1], [0, 1, 2], [0, 1, 2, 3], [], [5], [0, 1, 2, 3, 4, 5, 6]])
  (.cond (.tmp 21) (.region [⟨some 22, .move (.tmp 5), 23, none, true⟩, ⟨some 23, .move (.tmp 6), 3, none, true⟩, ⟨some 24, .load 25 (.tmp 3), 25, none, true⟩, ⟨some 25, .indexAddr 23 (.tmp 22) (.tmp 23), 0, none, true⟩, ⟨none, .store 25 (.tmp 25) (.tmp 24), 0, none, true⟩]) .skip))))
  (.region [⟨some 26, .binOp .add 3 (.tmp 11) (.const (.int .i64 1)) 3, 3, none, true⟩, ⟨some 11, .move (.tmp 26), 3, none, true⟩])))))))
  (.seq (.region [⟨some 27, .move (.tmp 5), 23, none, true⟩, ⟨some 4, .assign (.tmp 27), 23, none, true⟩])
  .ret)))
noncomputable def f38 : AFn := ⟨28, [.tmp 4], b38⟩
/-- novation/novationref10.status -/
noncomputable def b39 : AC :=
  .seq (.region [⟨some 4, .assign (.const (.int .i64 0)), 3, none, true⟩])
  (.seq (.seq (.region [⟨some 5, .assign (.const (.int .i64 0)), 3, none, true⟩])
  (.block 0 (.loop [true, true, false, false, false, true, false, false, false, false, false, false, false, false, false, false, false, false, false, false, false, false, false, false] (.seq (.seq (.region [⟨some 6, .move (.tmp 5), 3, none, true⟩, ⟨some 7, .move (.tmp 0), 22, none, true⟩, ⟨some 8, .call (⟨.builtin .len, #[.tmp 7], #[22]⟩), 3, none, true⟩, ⟨some 9, .binOp .lss 3 (.tmp 6) (.tmp 8) 3, 4, none, true⟩])
  (.cond (.tmp 9) .skip (.exit 0)))
  (.seq (.block 1 (.seq (.region [⟨some 12, .move (.tmp 0), 22, none, true⟩, ⟨some 13, .move (.tmp 5), 3, none, true⟩, ⟨some 14, .indexAddr 22 (.tmp 12) (.tmp 13), 0, none, true⟩, ⟨some 15, .fieldAddr 39 (.tmp 14) 0, 0, none, true⟩, ⟨some 16, .load 3 (.tmp 15), 3, none, true⟩, ⟨some 17, .move (.tmp 1), 3, none, true⟩, ⟨some 18, .binOp .eql 3 (.tmp 16) (.tmp 17) 3, 4, none, true⟩])
  (.cond (.tmp 18) (.seq (.region [⟨some 19, .move (.tmp 0), 22, none, true⟩, ⟨some 20, .move (.tmp 5), 3, none, true⟩, ⟨some 21, .indexAddr 22 (.tmp 19) (.tmp 20), 0, none, true⟩, ⟨some 22, .fieldAddr 39 (.tmp 21) 1, 0, none, true⟩, ⟨some 23, .load 3 (.tmp 22), 3, none, true⟩, ⟨some 4, .assign (.tmp 23), 3, none, true⟩])
  .ret) .skip)))
  (.region [⟨some 10, .move (.tmp 5), 3, none, true⟩, ⟨some 11, .binOp .add 3 (.tmp 10) (.const (.int .i64 1)) 3, 3, none, true⟩, ⟨some 5, .assign (.tmp 11), 3, none, true⟩]))))))
  (.seq (.region [⟨some 4, .assign (.const (.int .i64 0)), 3, none, true⟩])
  .ret))
noncomputable def f39 : AFn := ⟨24, [.tmp 4], b39⟩
/-- novation/novationref10.NextStatus -/
noncomputable def b40 : AC :=
  .seq (.region [⟨some 4, .assign (.const (.int .i64 0)), 3, none, true⟩, ⟨some 5, .assign (.const (.bool false)), 4, none, true⟩])
  (.seq (.block 0 (.seq (.region [⟨some 7, .move (.tmp 0), 3, none, true⟩, ⟨some 8, .binOp .eql 3 (.tmp 7) (.const (.int .i64 0)) 3, 4, none, true⟩, ⟨some 9, .move (.tmp 8), 4, none, true⟩, ⟨some 10, .move (.tmp 1), 3, some (some 9), true⟩, ⟨some 11, .binOp .eql 3 (.tmp 10) (.const (.int .i64 1)) 3, 4, some (some 9), true⟩, ⟨some 12, .pick (.tmp 9) (.tmp 11) (.const (.bool false)), 4, none, true⟩, ⟨some 6, .assign (.tmp 12), 4, none, true⟩])
  (.cond (.tmp 6) (.seq (.region [⟨some 4, .assign (.const (.int .i64 1)), 3, none, true⟩, ⟨some 5, .assign (.const (.bool true)), 4, none, true⟩])
  .ret) (.seq (.region [⟨some 14, .move (.tmp 0), 3, none, true⟩, ⟨some 15, .binOp .eql 3 (.tmp 14) (.const (.int .i64 1)) 3, 4, none, true⟩, ⟨some 16, .move (.tmp 15), 4, none, true⟩, ⟨some 17, .move (.tmp 1), 3, some (some 16), true⟩, ⟨some 18, .binOp .eql 3 (.tmp 17) (.const (.int .i64 11)) 3, 4, some (some 16), true⟩, ⟨some 19, .pick (.tmp 16) (.tmp 18) (.const (.bool false)), 4, none, true⟩, ⟨some 13, .assign (.tmp 19), 4, none, true⟩])
  (.cond (.tmp 13) (.seq (.region [⟨some 4, .assign (.const (.int .i64 2)), 3, none, true⟩, ⟨some 5, .assign (.const (.bool true)), 4, none, true⟩])
  .ret) (.seq (.region [⟨some 21, .move (.tmp 0), 3, none, true⟩, ⟨some 22, .binOp .eql 3 (.tmp 21) (.const (.int .i64 2)) 3, 4, none, true⟩, ⟨some 23, .move (.tmp 22), 4, none, true⟩, ⟨some 24, .move (.tmp 1), 3, some (some 23), true⟩, ⟨some 25, .binOp .eql 3 (.tmp 24) (.const (.int .i64 12)) 3, 4, some (some 23), true⟩, ⟨some 26, .pick (.tmp 23) (.tmp 25) (.const (.bool false)), 4, none, true⟩, ⟨some 20, .assign (.tmp 26), 4, none, true⟩])
  (.cond (.tmp 20) (.seq (.region [⟨some 4, .assign (.const (.int .i64 1)), 3, none, true⟩, ⟨some 5, .assign (.const (.bool true)), 4, none, true⟩])
  .ret) (.seq (.region [⟨some 28, .move (.tmp 0), 3, none, true⟩, ⟨some 29, .binOp .eql 3 (.tmp 28) (.const (.int .i64 2)) 3, 4, none, true⟩, ⟨some 30, .move (.tmp 29), 4, none, true⟩, ⟨some 31, .move (.tmp 1), 3, some (some 30), true⟩, ⟨some 32, .binOp .eql 3 (.tmp 31) (.const (.int .i64 13)) 3, 4, some (some 30), true⟩, ⟨some 33, .pick (.tmp 30) (.tmp 32) (.const (.bool false)), 4, none, true⟩, ⟨some 27, .assign (.tmp 33), 4, none, true⟩])
  (.cond (.tmp 27) (.seq (.region [⟨some 4, .assign (.const (.int .i64 3)), 3, none, true⟩, ⟨some 5, .assign (.const (.bool true)), 4, none, true⟩])
  .ret) (.seq (.region [⟨some 35, .move (.tmp 0), 3, none, true⟩, ⟨some 36, .binOp .eql 3 (.tmp 35) (.const (.int .i64 3)) 3, 4, none, true⟩, ⟨some 37, .move (.tmp 36), 4, none, true⟩, ⟨some 38, .move (.tmp 1), 3, some (some 37), true⟩, ⟨some 39, .binOp .eql 3 (.tmp 38) (.const (.int .i64 21)) 3, 4, some (some 37), true⟩, ⟨some 40, .pick (.tmp 37) (.tmp 39) (.const (.bool false)), 4, none, true⟩, ⟨some 34, .assign (.tmp 40), 4, none, true⟩])
  (.cond (.tmp 34) (.seq (.region [⟨some 4, .assign (.const (.int .i64 4)), 3, none, true⟩, ⟨some 5, .assign (.const (.bool true)), 4, none, true⟩])
  .ret) .skip)))))))))))
  (.seq (.region [⟨some 4, .assign (.const (.int .i64 0)), 3, none, true⟩, ⟨some 5, .assign (.const (.bool false)), 4, none, true⟩])
  .ret))
noncomputable def f40 : AFn := ⟨41, [.tmp 4, .tmp 5], b40⟩
/-- novation/novationref10.find -/
noncomputable def b41 : AC :=
  .seq (.region [⟨some 4, .alloc 25, 0, none, true⟩, ⟨some 5, .assign (.const (.bool false)), 4, none, true⟩])
  (.seq (.seq (.region [⟨some 6, .assign (.const (.int .i64 0)), 3, none, true⟩])
  (.block 0 (.loop [true, true, false, false, true, false, true, false, false, false, false, false, false, false, false, false, false, false, false, false, false, false, false, false, false] (.seq (.seq (.region [⟨some 7, .move (.tmp 6), 3, none, true⟩, ⟨some 8, .move (.tmp 0), 23, none, true⟩, ⟨some 9, .call (⟨.builtin .len, #[.tmp 8], #[23]⟩), 3, none, true⟩, ⟨some 10, .binOp .lss 3 (.tmp 7) (.tmp 9) 3, 4, none, true⟩])
  (.cond (.tmp 10) .skip (.exit 0)))
  (.seq (.block 1 (.seq (.region [⟨some 13, .move (.tmp 0), 23, none, true⟩, ⟨some 14, .move (.tmp 6), 3, none, true⟩, ⟨some 15, .indexAddr 23 (.tmp 13) (.tmp 14), 0, none, true⟩, ⟨some 16, .fieldAddr 25 (.tmp 15) 0, 0, none, true⟩, ⟨some 17, .load 3 (.tmp 16), 3, none, true⟩, ⟨some 18, .move (.tmp 1), 3, none, true⟩, ⟨some 19, .binOp .eql 3 (.tmp 17) (.tmp 18) 3, 4, none, true⟩])
  (.cond (.tmp 19) (.seq (.region [⟨some 20, .move (.tmp 0), 23, none, true⟩, ⟨some 21, .move (.tmp 6), 3, none, true⟩, ⟨some 22, .indexAddr 23 (.tmp 20) (.tmp 21), 0, none, true⟩, ⟨some 23, .load 25 (.tmp 22), 25, none, true⟩, ⟨none, .store 25 (.tmp 4) (.tmp 23), 0, none, true⟩, ⟨some 5, .assign (.const (.bool true)), 4, none, true⟩])
  .ret) .skip)))
  (.region [⟨some 11, .move (.tmp 6), 3, none, true⟩, ⟨some 12, .binOp .add 3 (.tmp 11) (.const (.int .i64 1)) 3, 3, none, true⟩, ⟨some 6, .assign (.tmp 12), 3, none, true⟩]))))))
  (.seq (.region [⟨some 24, .build 25 #[], 25, none, true⟩, ⟨none, .store 25 (.tmp 4) (.tmp 24), 0, none, true⟩, ⟨some 5, .assign (.const (.bool false)), 4, none, true⟩])
  .ret))
noncomputable def f41 : AFn := ⟨25, [.cell 4 25, .tmp 5], b41⟩
/-- slices.rotateRight[novation/api.Member] -/
noncomputable def b43 : AC :=
  .region [⟨some 4, .move (.tmp 0), 22, none, true⟩, ⟨some 5, .move (.tmp 0), 22, none, true⟩, ⟨some 6, .call (⟨.builtin .len, #[.tmp 5], #[22]⟩), 3, none, true⟩, ⟨some 7, .move (.tmp 1), 3, none, true⟩, ⟨some 8, .binOp .sub 3 (.tmp 6) (.tmp 7) 3, 3, none, true⟩, ⟨some 9, .call (⟨.value (.func 46), #[.tmp 4, .tmp 8], #[22, 3]⟩), 0, none, true⟩]
noncomputable def f43 : AFn := ⟨10, [], b43⟩
/-- slices.rotateRight[novation/api.Acc] -/
noncomputable def b45 : AC :=
  .region [⟨some 4, .move (.tmp 0), 23, none, true⟩, ⟨some 5, .move (.tmp 0), 23, none, true⟩, ⟨some 6, .call (⟨.builtin .len, #[.tmp 5], #[23]⟩), 3, none, true⟩, ⟨some 7, .move (.tmp 1), 3, none, true⟩, ⟨some 8, .binOp .sub 3 (.tmp 6) (.tmp 7) 3, 3, none, true⟩, ⟨some 9, .call (⟨.value (.func 47), #[.tmp 4, .tmp 8], #[23, 3]⟩), 0, none, true⟩]
noncomputable def f45 : AFn := ⟨10, [], b45⟩
/-- slices.rotateLeft[novation/api.Member] -/
noncomputable def b46 : AC :=
  .seq (.region [⟨some 4, .move (.tmp 0), 22, none, true⟩, ⟨some 5, .move (.tmp 1), 3, none, true⟩, ⟨some 6, .slice 22 (.tmp 4) none (some (.tmp 5)) none, 22, none, true⟩, ⟨some 7, .call (⟨.value (.func 48), #[.tmp 6], #[22]⟩), 0, none, true⟩])
  (.seq (.region [⟨some 8, .move (.tmp 0), 22, none, true⟩, ⟨some 9, .move (.tmp 1), 3, none, true⟩, ⟨some 10, .slice 22 (.tmp 8) (some (.tmp 9)) none none, 22, none, true⟩, ⟨some 11, .call (⟨.value (.func 48), #[.tmp 10], #[22]⟩), 0, none, true⟩])
  (.region [⟨some 12, .move (.tmp 0), 22, none, true⟩, ⟨some 13, .call (⟨.value (.func 48), #[.tmp 12], #[22]⟩), 0, none, true⟩]))
noncomputable def f46 : AFn := ⟨14, [], b46⟩
/-- slices.rotateLeft[novation/api.Acc] -/
noncomputable def b47 : AC :=
  .seq (.region [⟨some 4, .move (.tmp 0), 23, none, true⟩, ⟨some 5, .move (.tmp 1), 3, none, true⟩, ⟨some 6, .slice 23 (.tmp 4) none (some (.tmp 5)) none, 23, none, true⟩, ⟨some 7, .call (⟨.value (.func 49), #[.tmp 6], #[23]⟩), 0, none, true⟩])
  (.seq (.region [⟨some 8, .move (.tmp 0), 23, none, true⟩, ⟨some 9, .move (.tmp 1), 3, none, true⟩, ⟨some 10, .slice 23 (.tmp 8) (some (.tmp 9)) none none, 23, none, true⟩, ⟨some 11, .call (⟨.value (.func 49), #[.tmp 10], #[23]⟩), 0, none, true⟩])
  (.region [⟨some 12, .move (.tmp 0), 23, none, true⟩, ⟨some 13, .call (⟨.value (.func 49), #[.tmp 12], #[23]⟩), 0, none, true⟩]))
noncomputable def f47 : AFn := ⟨14, [], b47⟩
/-- slices.Reverse[[]novation/api.Member,novation/api.Member] -/
noncomputable def b48 : AC :=
  .seq (.region [⟨some 4, .move (.tmp 0), 22, none, true⟩, ⟨some 5, .call (⟨.builtin .len, #[.tmp 4], #[22]⟩), 3, none, true⟩, ⟨some 6, .binOp .sub 3 (.tmp 5) (.const (.int .i64 1)) 3, 3, none, true⟩, ⟨some 2, .assign (.const (.int .i64 0)), 3, none, true⟩, ⟨some 3, .assign (.tmp 6), 3, none, true⟩])
  (.block 0 (.loop [true, false, true, true, false, false, false, false, false, false, false, false, false, false, false, false, false, false, false, false, false, false, false, false, false, false, false, false] (.seq (.seq (.region [⟨some 7, .move (.tmp 2), 3, none, true⟩, ⟨some 8, .move (.tmp 3), 3, none, true⟩, ⟨some 9, .binOp .lss 3 (.tmp 7) (.tmp 8) 3, 4, none, true⟩])
  (.cond (.tmp 9) .skip (.exit 0)))
  (.seq (.block 1 (.draw (drawOf T.c48 3) [0, 1, 2, 3, 4, 5, 6, 7, 8, 9, 10, 11, 12, 13, 14, 15] [[], [], [], [], [], [], [4, 5], [4, 5, 6], [], [], [8, 9], [8, 9, 10], [0, 1, 4, 5, 6, 7, 8, 9, 10, 11], [0, 1, 4, 5, 6, 7, 8, 9, 10, 11, 12], [0, 1, 2, 3, 4, 5, 6, 7, 8, 9, 10, 11, 12, 13], [0, 1, 2, 3, 4, 5, 6, 7, 8, 9, 10, 11, 12, 13, 14]]))
  (.region [⟨some 10, .move (.tmp 2), 3, none, true⟩, ⟨some 11, .binOp .add 3 (.tmp 10) (.const (.int .i64 1)) 3, 3, none, true⟩, ⟨some 12, .move (.tmp 3), 3, none, true⟩, ⟨some 13, .binOp .sub 3 (.tmp 12) (.const (.int .i64 1)) 3, 3, none, true⟩, ⟨some 2, .assign (.tmp 11), 3, none, true⟩, ⟨some 3, .assign (.tmp 13), 3, none, true⟩])))))
noncomputable def f48 : AFn := ⟨28, [], b48⟩
/-- slices.Reverse[[]novation/api.Acc,novation/api.Acc] -/
noncomputable def b49 : AC :=
  .seq (.region [⟨some 4, .move (.tmp 0), 23, none, true⟩, ⟨some 5, .call (⟨.builtin .len, #[.tmp 4], #[23]⟩), 3, none, true⟩, ⟨some 6, .binOp .sub 3 (.tmp 5) (.const (.int .i64 1)) 3, 3, none, true⟩, ⟨some 2, .assign (.const (.int .i64 0)), 3, none, true⟩, ⟨some 3, .assign (.tmp 6), 3, none, true⟩])
  (.block 0 (.loop [true, false, true, true, false, false, false, false, false, false, false, false, false, false, false, false, false, false, false, false, false, false, false, false, false, false, false, false] (.seq (.seq (.region [⟨some 7, .move (.tmp 2), 3, none, true⟩, ⟨some 8, .move (.tmp 3), 3, none, true⟩, ⟨some 9, .binOp .lss 3 (.tmp 7) (.tmp 8) 3, 4, none, true⟩])
  (.cond (.tmp 9) .skip (.exit 0)))
  (.seq (.block 1 (.draw (drawOf T.c49 3) [0, 1, 2, 3, 4, 5, 6, 7, 8, 9, 10, 11, 12, 13, 14, 15] [[], [], [], [], [], [], [4, 5], [4, 5, 6], [], [], [8, 9], [8, 9, 10], [0, 1, 4, 5, 6, 7, 8, 9, 10, 11], [0, 1, 4, 5, 6, 7, 8, 9, 10, 11, 12], [0, 1, 2, 3, 4, 5, 6, 7, 8, 9, 10, 11, 12, 13], [0, 1, 2, 3, 4, 5, 6, 7, 8, 9, 10, 11, 12, 13, 14]]))
  (.region [⟨some 10, .move (.tmp 2), 3, none, true⟩, ⟨some 11, .binOp .add 3 (.tmp 10) (.const (.int .i64 1)) 3, 3, none, true⟩, ⟨some 12, .move (.tmp 3), 3, none, true⟩, ⟨some 13, .binOp .sub 3 (.tmp 12) (.const (.int .i64 1)) 3, 3, none, true⟩, ⟨some 2, .assign (.tmp 11), 3, none, true⟩, ⟨some 3, .assign (.tmp 13), 3, none, true⟩])))))
noncomputable def f49 : AFn := ⟨28, [], b49⟩
def tys : List (Nat × TI) := [(1, t1), (2, t2), (3, t3), (4, t4), (22, t22), (23, t23), (25, t25), (28, t28), (39, t39), (42, t42), (57, t57)]
noncomputable def fns : List (Nat × AFn) := [(3, f3), (4, f4), (5, f5), (6, f6), (7, f7), (8, f8), (9, f9), (10, f10), (11, f11), (12, f12), (13, f13), (14, f14), (15, f15), (16, f16), (17, f17), (18, f18), (19, f19), (20, f20), (21, f21), (22, f22), (23, f23), (24, f24), (25, f25), (26, f26), (27, f27), (28, f28), (29, f29), (30, f30), (31, f31), (32, f32), (33, f33), (34, f34), (35, f35), (36, f36), (37, f37), (38, f38), (39, f39), (40, f40), (41, f41), (43, f43), (45, f45), (46, f46), (47, f47), (48, f48), (49, f49)]
noncomputable def ap0 : AP := { ty := fun t => tys.lookup t, fn := fun f => fns.lookup f, prim := fun _ => none }
def gcs : List Nat := [11, 12, 13, 15, 16, 17, 18, 24, 25, 26, 27, 28, 29, 30, 31, 33, 39, 40, 41]
def insP (f : Nat) : Option (List AV → Nat → AH → Option (AV × AH)) := if f = 34 then some (insX 2) else if f = 36 then some (insX 4) else none
def extP (f : Nat) : Option (List AV → AH → Option (AV × AH)) := if f = 42 then some overlapsX else if f = 44 then some overlapsX else none
noncomputable def apN : AP := { ap0 with ext := extP, pl := true }
noncomputable def apP : AP := { apN with prim := insP }
noncomputable def ap : AP := { apP with prim := fun f => insP f, gc := fun f => gcs.contains f }
theorem ty1 : ap.ty 1 = some t1 := by kernel_rfl
theorem ty2 : ap.ty 2 = some t2 := by kernel_rfl
theorem ty3 : ap.ty 3 = some t3 := by kernel_rfl
theorem ty4 : ap.ty 4 = some t4 := by kernel_rfl
theorem ty22 : ap.ty 22 = some t22 := by kernel_rfl
theorem ty23 : ap.ty 23 = some t23 := by kernel_rfl
theorem ty25 : ap.ty 25 = some t25 := by kernel_rfl
theorem ty28 : ap.ty 28 = some t28 := by kernel_rfl
theorem ty39 : ap.ty 39 = some t39 := by kernel_rfl
theorem ty42 : ap.ty 42 = some t42 := by kernel_rfl
theorem ty57 : ap.ty 57 = some t57 := by kernel_rfl
theorem fn3 : ap.fn 3 = some f3 := by kernel_rfl
theorem fn4 : ap.fn 4 = some f4 := by kernel_rfl
theorem fn5 : ap.fn 5 = some f5 := by kernel_rfl
theorem fn6 : ap.fn 6 = some f6 := by kernel_rfl
theorem fn7 : ap.fn 7 = some f7 := by kernel_rfl
theorem fn8 : ap.fn 8 = some f8 := by kernel_rfl
theorem fn9 : ap.fn 9 = some f9 := by kernel_rfl
theorem fn10 : ap.fn 10 = some f10 := by kernel_rfl
theorem fn11 : ap.fn 11 = some f11 := by kernel_rfl
theorem fn12 : ap.fn 12 = some f12 := by kernel_rfl
theorem fn13 : ap.fn 13 = some f13 := by kernel_rfl
theorem fn14 : ap.fn 14 = some f14 := by kernel_rfl
theorem fn15 : ap.fn 15 = some f15 := by kernel_rfl
theorem fn16 : ap.fn 16 = some f16 := by kernel_rfl
theorem fn17 : ap.fn 17 = some f17 := by kernel_rfl
theorem fn18 : ap.fn 18 = some f18 := by kernel_rfl
theorem fn19 : ap.fn 19 = some f19 := by kernel_rfl
theorem fn20 : ap.fn 20 = some f20 := by kernel_rfl
theorem fn21 : ap.fn 21 = some f21 := by kernel_rfl
theorem fn22 : ap.fn 22 = some f22 := by kernel_rfl
theorem fn23 : ap.fn 23 = some f23 := by kernel_rfl
theorem fn24 : ap.fn 24 = some f24 := by kernel_rfl
theorem fn25 : ap.fn 25 = some f25 := by kernel_rfl
theorem fn26 : ap.fn 26 = some f26 := by kernel_rfl
theorem fn27 : ap.fn 27 = some f27 := by kernel_rfl
theorem fn28 : ap.fn 28 = some f28 := by kernel_rfl
theorem fn29 : ap.fn 29 = some f29 := by kernel_rfl
theorem fn30 : ap.fn 30 = some f30 := by kernel_rfl
theorem fn31 : ap.fn 31 = some f31 := by kernel_rfl
theorem fn32 : ap.fn 32 = some f32 := by kernel_rfl
theorem fn33 : ap.fn 33 = some f33 := by kernel_rfl
theorem fn34 : ap.fn 34 = some f34 := by kernel_rfl
theorem fn35 : ap.fn 35 = some f35 := by kernel_rfl
theorem fn36 : ap.fn 36 = some f36 := by kernel_rfl
theorem fn37 : ap.fn 37 = some f37 := by kernel_rfl
theorem fn38 : ap.fn 38 = some f38 := by kernel_rfl
theorem fn39 : ap.fn 39 = some f39 := by kernel_rfl
theorem fn40 : ap.fn 40 = some f40 := by kernel_rfl
theorem fn41 : ap.fn 41 = some f41 := by kernel_rfl
theorem fn43 : ap.fn 43 = some f43 := by kernel_rfl
theorem fn45 : ap.fn 45 = some f45 := by kernel_rfl
theorem fn46 : ap.fn 46 = some f46 := by kernel_rfl
theorem fn47 : ap.fn 47 = some f47 := by kernel_rfl
theorem fn48 : ap.fn 48 = some f48 := by kernel_rfl
theorem fn49 : ap.fn 49 = some f49 := by kernel_rfl
theorem types : ∀ x ∈ tys, tiOf Try.prog x.1 = some x.2 := by
  simp only [tys, List.forall_mem_cons]
  exact ⟨by kernel_rfl, by kernel_rfl, by kernel_rfl, by kernel_rfl, by kernel_rfl, by kernel_rfl, by kernel_rfl, by kernel_rfl, by kernel_rfl, by kernel_rfl, by kernel_rfl, fun _ h => by cases h⟩
theorem funcs : ∀ x ∈ fns, FnOk Try.prog x.1 x.2 := by
  simp only [fns, List.forall_mem_cons]
  exact ⟨fnOk_of Try.func3 rfl (by decide +kernel) (by kernel_rfl) (by kernel_rfl) (by kernel_rfl), fnOk_of Try.func4 rfl (by decide +kernel) (by kernel_rfl) (by kernel_rfl) (by kernel_rfl), fnOk_of Try.func5 rfl (by decide +kernel) (by kernel_rfl) (by kernel_rfl) (by kernel_rfl), fnOk_of Try.func6 rfl (by decide +kernel) (by kernel_rfl) (by kernel_rfl) (by kernel_rfl), fnOk_of Try.func7 rfl (by decide +kernel) (by kernel_rfl) (by kernel_rfl) (by kernel_rfl), fnOk_of Try.func8 rfl (by decide +kernel) (by kernel_rfl) (by kernel_rfl) (by kernel_rfl), fnOk_of Try.func9 rfl (by decide +kernel) (by kernel_rfl) (by kernel_rfl) (by kernel_rfl), fnOk_of Try.func10 rfl (by decide +kernel) (by kernel_rfl) (by kernel_rfl) (by kernel_rfl), fnOk_of Try.func11 rfl (by decide +kernel) (by kernel_rfl) (by kernel_rfl) (by kernel_rfl), fnOk_of Try.func12 rfl (by decide +kernel) (by kernel_rfl) (by kernel_rfl) (by kernel_rfl), fnOk_of Try.func13 rfl (by decide +kernel) (by kernel_rfl) (by kernel_rfl) (by kernel_rfl), fnOk_of Try.func14 rfl (by decide +kernel) (by kernel_rfl) (by kernel_rfl) (by kernel_rfl), fnOk_of Try.func15 rfl (by decide +kernel) (by kernel_rfl) (by kernel_rfl) (by kernel_rfl), fnOk_of Try.func16 rfl (by decide +kernel) (by kernel_rfl) (by kernel_rfl) (by kernel_rfl), fnOk_of Try.func17 rfl (by decide +kernel) (by kernel_rfl) (by kernel_rfl) (by kernel_rfl), fnOk_of Try.func18 rfl (by decide +kernel) (by kernel_rfl) (by kernel_rfl) (by kernel_rfl), fnOk_of Try.func19 rfl (by decide +kernel) (by kernel_rfl) (by kernel_rfl) (by kernel_rfl), fnOk_of Try.func20 rfl (by decide +kernel) (by kernel_rfl) (by kernel_rfl) (by kernel_rfl), fnOk_of Try.func21 rfl (by decide +kernel) (by kernel_rfl) (by kernel_rfl) (by kernel_rfl), fnOk_of Try.func22 rfl (by decide +kernel) (by kernel_rfl) (by kernel_rfl) (by kernel_rfl), fnOk_of Try.func23 rfl (by decide +kernel) (by kernel_rfl) (by kernel_rfl) (by kernel_rfl), fnOk_of Try.func24 rfl (by decide +kernel) (by kernel_rfl) (by kernel_rfl) (by kernel_rfl), fnOk_of Try.func25 rfl (by decide +kernel) (by kernel_rfl) (by kernel_rfl) (by kernel_rfl), fnOk_of Try.func26 rfl (by decide +kernel) (by kernel_rfl) (by kernel_rfl) (by kernel_rfl), fnOk_of Try.func27 rfl (by decide +kernel) (by kernel_rfl) (by kernel_rfl) (by kernel_rfl), fnOk_of Try.func28 rfl (by decide +kernel) (by kernel_rfl) (by kernel_rfl) (by kernel_rfl), fnOk_of Try.func29 rfl (by decide +kernel) (by kernel_rfl) (by kernel_rfl) (by kernel_rfl), fnOk_of Try.func30 rfl (by decide +kernel) (by kernel_rfl) (by kernel_rfl) (by kernel_rfl), fnOk_of Try.func31 rfl (by decide +kernel) (by kernel_rfl) (by kernel_rfl) (by kernel_rfl), fnOk_of Try.func32 rfl (by decide +kernel) (by kernel_rfl) (by kernel_rfl) (by kernel_rfl), fnOk_of Try.func33 rfl (by decide +kernel) (by kernel_rfl) (by kernel_rfl) (by kernel_rfl), fnOk_of Try.func34 rfl (by decide +kernel) (by kernel_rfl) (by kernel_rfl) (by kernel_rfl), fnOk_of Try.func35 rfl (by decide +kernel) (by kernel_rfl) (by kernel_rfl) (by kernel_rfl), fnOk_of Try.func36 rfl (by decide +kernel) (by kernel_rfl) (by kernel_rfl) (by kernel_rfl), fnOk_of Try.func37 rfl (by decide +kernel) (by kernel_rfl) (by kernel_rfl) (by kernel_rfl), fnOk_of Try.func38 rfl (by decide +kernel) (by kernel_rfl) (by kernel_rfl) (by kernel_rfl), fnOk_of Try.func39 rfl (by decide +kernel) (by kernel_rfl) (by kernel_rfl) (by kernel_rfl), fnOk_of Try.func40 rfl (by decide +kernel) (by kernel_rfl) (by kernel_rfl) (by kernel_rfl), fnOk_of Try.func41 rfl (by decide +kernel) (by kernel_rfl) (by kernel_rfl) (by kernel_rfl), fnOk_of Try.func43 rfl (by decide +kernel) (by kernel_rfl) (by kernel_rfl) (by kernel_rfl), fnOk_of Try.func45 rfl (by decide +kernel) (by kernel_rfl) (by kernel_rfl) (by kernel_rfl), fnOk_of Try.func46 rfl (by decide +kernel) (by kernel_rfl) (by kernel_rfl) (by kernel_rfl), fnOk_of Try.func47 rfl (by decide +kernel) (by kernel_rfl) (by kernel_rfl) (by kernel_rfl), fnOk_of Try.func48 rfl (by decide +kernel) (by kernel_rfl) (by kernel_rfl) (by kernel_rfl), fnOk_of Try.func49 rfl (by decide +kernel) (by kernel_rfl) (by kernel_rfl) (by kernel_rfl), fun _ h => by cases h⟩
theorem agree0 : Agree Try.prog ap0 := agree_of (by kernel_rfl) types funcs
@[simp] theorem ap_pl : ap.pl = true := rfl
@[simp] theorem ap_ext {f : Nat} : ap.ext f = if f = 42 then some overlapsX else if f = 44 then some overlapsX else none := rfl
attribute [simp] ty1 t1 ty2 t2 ty3 t3 ty4 t4 ty22 t22 ty23 t23 ty25 t25 ty28 t28 ty39 t39 ty42 t42 ty57 t57
end Go.Proofs.Ytobfodegdbfhdaa.T
end
section
/-! The drawn regions, one operation behind the other. Written by wip/ab/abgen.py (an own program). -/
set_option linter.unusedVariables false
set_option maxRecDepth 100000
namespace Go.Proofs.Ytobfodegdbfhdaa.T
open Go Go.Ab
def d7_13 : List DP := [⟨0, ⟨some 51, .move (.tmp 11), 3, none, true⟩, .q, []⟩,
  ⟨1, ⟨some 52, .move (.tmp 1), 23, none, true⟩, .q, []⟩,
  ⟨2, ⟨some 53, .call (⟨.builtin .len, #[.tmp 52], #[23]⟩), 3, none, true⟩, .q, []⟩,
  ⟨3, ⟨some 54, .binOp .lss 3 (.tmp 51) (.tmp 53) 3, 4, none, true⟩, .q, []⟩,
  ⟨4, ⟨some 55, .move (.tmp 54), 4, none, true⟩, .q, []⟩,
  ⟨5, ⟨some 56, .move (.tmp 1), 23, some (some 55), true⟩, .q, []⟩,
  ⟨6, ⟨some 57, .move (.tmp 11), 3, some (some 55), true⟩, .q, []⟩,
  ⟨7, ⟨some 58, .indexAddr 23 (.tmp 56) (.tmp 57), 0, some (some 55), true⟩, .q, []⟩,
  ⟨8, ⟨some 59, .fieldAddr 25 (.tmp 58) 0, 0, some (some 55), true⟩, .q, []⟩,
  ⟨9, ⟨some 60, .load 3 (.tmp 59), 3, some (some 55), true⟩, .h, []⟩,
  ⟨10, ⟨some 61, .fieldAddr 25 (.tmp 5) 0, 0, some (some 55), true⟩, .q, []⟩,
  ⟨11, ⟨some 62, .load 3 (.tmp 61), 3, some (some 55), true⟩, .h, []⟩,
  ⟨12, ⟨some 63, .binOp .lss 3 (.tmp 60) (.tmp 62) 3, 4, some (some 55), true⟩, .q, []⟩,
  ⟨13, ⟨some 64, .pick (.tmp 55) (.tmp 63) (.const (.bool false)), 4, none, true⟩, .q, []⟩]
theorem dc7_13 : drawC ap (drawOf T.c7 13).toList [0, 1, 2, 3, 4, 5, 6, 7, 8, 9, 10, 11, 12, 13] [[], [], [1], [0, 1, 2], [0, 1, 2, 3], [0, 1, 2, 3, 4], [0, 1, 2, 3, 4], [0, 1, 2, 3, 4, 5, 6], [0, 1, 2, 3, 4, 5, 6, 7], [0, 1, 2, 3, 4, 5, 6, 7, 8], [0, 1, 2, 3, 4], [0, 1, 2, 3, 4, 10], [0, 1, 2, 3, 4, 5, 6, 7, 8, 9, 10, 11], [0, 1, 2, 3, 4, 5, 6, 7, 8, 9, 10, 11, 12]] = some d7_13 := by kernel_rfl
def d7_15 : List DP := [⟨0, ⟨some 67, .move (.tmp 1), 23, none, true⟩, .q, []⟩,
  ⟨2, ⟨some 69, .move (.tmp 11), 3, none, true⟩, .q, []⟩,
  ⟨3, ⟨some 70, .load 25 (.tmp 5), 25, none, true⟩, .h, [1]⟩,
  ⟨1, ⟨some 68, .call (⟨.value (.func 37), #[.tmp 67], #[23]⟩), 23, none, true⟩, .e, []⟩,
  ⟨4, ⟨some 71, .buildSlice 23 1 #[(0, .tmp 70)], 23, none, true⟩, .a, []⟩,
  ⟨5, ⟨some 72, .call (⟨.value (.func 36), #[.tmp 68, .tmp 69, .tmp 71], #[23, 3, 23]⟩), 23, none, true⟩, .e, []⟩,
  ⟨6, ⟨some 6, .assign (.tmp 72), 23, none, true⟩, .q, []⟩,
  ⟨7, ⟨some 7, .assign (.const (.int .i64 0)), 28, none, true⟩, .q, []⟩]
theorem dc7_15 : drawC ap (drawOf T.c7 15).toList [0, 2, 3, 1, 4, 5, 6, 7] [[], [0], [], [], [3], [0, 1, 2, 3, 4], [0, 1, 2, 3, 4, 5], [0, 1, 2, 3, 4, 5, 6]] = some d7_15 := by kernel_rfl
def d13_6 : List DP := [⟨0, ⟨some 17, .move (.tmp 0), 42, none, true⟩, .q, []⟩,
  ⟨1, ⟨some 18, .move (.tmp 5), 3, none, true⟩, .q, []⟩,
  ⟨2, ⟨some 19, .indexAddr 42 (.tmp 17) (.tmp 18), 0, none, true⟩, .q, []⟩,
  ⟨3, ⟨some 20, .load 3 (.tmp 19), 3, none, true⟩, .h, []⟩,
  ⟨4, ⟨some 21, .move (.tmp 1), 42, none, true⟩, .q, []⟩,
  ⟨5, ⟨some 22, .move (.tmp 5), 3, none, true⟩, .q, []⟩,
  ⟨6, ⟨some 23, .indexAddr 42 (.tmp 21) (.tmp 22), 0, none, true⟩, .q, []⟩,
  ⟨7, ⟨some 24, .load 3 (.tmp 23), 3, none, true⟩, .h, []⟩,
  ⟨8, ⟨some 25, .binOp .neq 3 (.tmp 20) (.tmp 24) 3, 4, none, true⟩, .q, []⟩]
theorem dc13_6 : drawC ap (drawOf T.c13 6).toList [0, 1, 2, 3, 4, 5, 6, 7, 8] [[], [], [0, 1], [0, 1, 2], [], [], [4, 5], [4, 5, 6], [0, 1, 2, 3, 4, 5, 6, 7]] = some d13_6 := by kernel_rfl
def d17_4 : List DP := [⟨0, ⟨some 12, .fieldAddr 39 (.tmp 4) 0, 0, none, true⟩, .q, []⟩,
  ⟨1, ⟨some 13, .load 3 (.tmp 12), 3, none, true⟩, .h, []⟩,
  ⟨2, ⟨some 14, .binOp .lss 3 (.tmp 13) (.const (.int .i64 1)) 3, 4, none, true⟩, .q, []⟩,
  ⟨3, ⟨some 15, .move (.tmp 14), 4, none, true⟩, .q, []⟩,
  ⟨4, ⟨some 16, .fieldAddr 39 (.tmp 4) 0, 0, some (some 15), false⟩, .q, []⟩,
  ⟨5, ⟨some 17, .load 3 (.tmp 16), 3, some (some 15), false⟩, .h, []⟩,
  ⟨6, ⟨some 18, .binOp .gtr 3 (.tmp 17) (.const (.int .i64 12)) 3, 4, some (some 15), false⟩, .q, []⟩,
  ⟨7, ⟨some 19, .pick (.tmp 15) (.const (.bool true)) (.tmp 18), 4, none, true⟩, .q, []⟩,
  ⟨8, ⟨some 20, .move (.tmp 19), 4, none, true⟩, .q, []⟩,
  ⟨9, ⟨some 21, .fieldAddr 39 (.tmp 4) 1, 0, some (some 20), false⟩, .q, []⟩,
  ⟨10, ⟨some 22, .load 3 (.tmp 21), 3, some (some 20), false⟩, .h, []⟩,
  ⟨11, ⟨some 23, .binOp .lss 3 (.tmp 22) (.const (.int .i64 1)) 3, 4, some (some 20), false⟩, .q, []⟩,
  ⟨12, ⟨some 24, .pick (.tmp 20) (.const (.bool true)) (.tmp 23), 4, none, true⟩, .q, []⟩,
  ⟨13, ⟨some 25, .move (.tmp 24), 4, none, true⟩, .q, []⟩,
  ⟨14, ⟨some 26, .fieldAddr 39 (.tmp 4) 1, 0, some (some 25), false⟩, .q, []⟩,
  ⟨15, ⟨some 27, .load 3 (.tmp 26), 3, some (some 25), false⟩, .h, []⟩,
  ⟨16, ⟨some 28, .binOp .gtr 3 (.tmp 27) (.const (.int .i64 4)) 3, 4, some (some 25), false⟩, .q, []⟩,
  ⟨17, ⟨some 29, .pick (.tmp 25) (.const (.bool true)) (.tmp 28), 4, none, true⟩, .q, []⟩,
  ⟨18, ⟨some 30, .move (.tmp 29), 4, none, true⟩, .q, []⟩,
  ⟨19, ⟨some 31, .move (.tmp 3), 3, some (some 30), false⟩, .q, []⟩,
  ⟨20, ⟨some 32, .binOp .gtr 3 (.tmp 31) (.const (.int .i64 0)) 3, 4, some (some 30), false⟩, .q, []⟩,
  ⟨21, ⟨some 33, .move (.tmp 32), 4, some (some 30), false⟩, .q, []⟩,
  ⟨22, ⟨some 34, .move (.tmp 0), 22, some (some 33), true⟩, .q, []⟩,
  ⟨23, ⟨some 35, .move (.tmp 3), 3, some (some 33), true⟩, .q, []⟩,
  ⟨24, ⟨some 36, .binOp .sub 3 (.tmp 35) (.const (.int .i64 1)) 3, 3, some (some 33), true⟩, .q, []⟩,
  ⟨25, ⟨some 37, .indexAddr 22 (.tmp 34) (.tmp 36), 0, some (some 33), true⟩, .q, []⟩,
  ⟨26, ⟨some 38, .fieldAddr 39 (.tmp 37) 0, 0, some (some 33), true⟩, .q, []⟩,
  ⟨27, ⟨some 39, .load 3 (.tmp 38), 3, some (some 33), true⟩, .h, []⟩,
  ⟨28, ⟨some 40, .fieldAddr 39 (.tmp 4) 0, 0, some (some 33), true⟩, .q, []⟩,
  ⟨29, ⟨some 41, .load 3 (.tmp 40), 3, some (some 33), true⟩, .h, []⟩,
  ⟨30, ⟨some 42, .binOp .geq 3 (.tmp 39) (.tmp 41) 3, 4, some (some 33), true⟩, .q, []⟩,
  ⟨31, ⟨some 43, .pick (.tmp 33) (.tmp 42) (.const (.bool false)), 4, some (some 30), false⟩, .q, []⟩,
  ⟨32, ⟨some 44, .pick (.tmp 30) (.const (.bool true)) (.tmp 43), 4, none, true⟩, .q, []⟩]
theorem dc17_4 : drawC ap (drawOf T.c17 4).toList [0, 1, 2, 3, 4, 5, 6, 7, 8, 9, 10, 11, 12, 13, 14, 15, 16, 17, 18, 19, 20, 21, 22, 23, 24, 25, 26, 27, 28, 29, 30, 31, 32] [[], [0], [0, 1], [0, 1, 2], [0, 1, 2, 3], [0, 1, 2, 3, 4], [0, 1, 2, 3, 4, 5], [0, 1, 2, 3, 4, 5, 6], [0, 1, 2, 3, 4, 5, 6, 7], [0, 1, 2, 3, 4, 5, 6, 7, 8], [0, 1, 2, 3, 4, 5, 6, 7, 8, 9], [0, 1, 2, 3, 4, 5, 6, 7, 8, 9, 10], [0, 1, 2, 3, 4, 5, 6, 7, 8, 9, 10, 11], [0, 1, 2, 3, 4, 5, 6, 7, 8, 9, 10, 11, 12], [0, 1, 2, 3, 4, 5, 6, 7, 8, 9, 10, 11, 12, 13], [0, 1, 2, 3, 4, 5, 6, 7, 8, 9, 10, 11, 12, 13, 14], [0, 1, 2, 3, 4, 5, 6, 7, 8, 9, 10, 11, 12, 13, 14, 15], [0, 1, 2, 3, 4, 5, 6, 7, 8, 9, 10, 11, 12, 13, 14, 15, 16], [0, 1, 2, 3, 4, 5, 6, 7, 8, 9, 10, 11, 12, 13, 14, 15, 16, 17], [0, 1, 2, 3, 4, 5, 6, 7, 8, 9, 10, 11, 12, 13, 14, 15, 16, 17, 18], [0, 1, 2, 3, 4, 5, 6, 7, 8, 9, 10, 11, 12, 13, 14, 15, 16, 17, 18, 19], [0, 1, 2, 3, 4, 5, 6, 7, 8, 9, 10, 11, 12, 13, 14, 15, 16, 17, 18, 19, 20], [0, 1, 2, 3, 4, 5, 6, 7, 8, 9, 10, 11, 12, 13, 14, 15, 16, 17, 18, 19, 20, 21], [0, 1, 2, 3, 4, 5, 6, 7, 8, 9, 10, 11, 12, 13, 14, 15, 16, 17, 18, 19, 20, 21], [0, 1, 2, 3, 4, 5, 6, 7, 8, 9, 10, 11, 12, 13, 14, 15, 16, 17, 18, 19, 20, 21, 23], [0, 1, 2, 3, 4, 5, 6, 7, 8, 9, 10, 11, 12, 13, 14, 15, 16, 17, 18, 19, 20, 21, 22, 23, 24], [0, 1, 2, 3, 4, 5, 6, 7, 8, 9, 10, 11, 12, 13, 14, 15, 16, 17, 18, 19, 20, 21, 22, 23, 24, 25], [0, 1, 2, 3, 4, 5, 6, 7, 8, 9, 10, 11, 12, 13, 14, 15, 16, 17, 18, 19, 20, 21, 22, 23, 24, 25, 26], [0, 1, 2, 3, 4, 5, 6, 7, 8, 9, 10, 11, 12, 13, 14, 15, 16, 17, 18, 19, 20, 21], [0, 1, 2, 3, 4, 5, 6, 7, 8, 9, 10, 11, 12, 13, 14, 15, 16, 17, 18, 19, 20, 21, 28], [0, 1, 2, 3, 4, 5, 6, 7, 8, 9, 10, 11, 12, 13, 14, 15, 16, 17, 18, 19, 20, 21, 22, 23, 24, 25, 26, 27, 28, 29], [0, 1, 2, 3, 4, 5, 6, 7, 8, 9, 10, 11, 12, 13, 14, 15, 16, 17, 18, 19, 20, 21, 22, 23, 24, 25, 26, 27, 28, 29, 30], [0, 1, 2, 3, 4, 5, 6, 7, 8, 9, 10, 11, 12, 13, 14, 15, 16, 17, 18, 19, 20, 21, 22, 23, 24, 25, 26, 27, 28, 29, 30, 31]] = some d17_4 := by kernel_rfl
def d18_5 : List DP := [⟨0, ⟨some 13, .fieldAddr 25 (.tmp 5) 0, 0, none, true⟩, .q, []⟩,
  ⟨1, ⟨some 14, .load 3 (.tmp 13), 3, none, true⟩, .h, []⟩,
  ⟨2, ⟨some 15, .binOp .lss 3 (.tmp 14) (.const (.int .i64 1)) 3, 4, none, true⟩, .q, []⟩,
  ⟨3, ⟨some 16, .move (.tmp 15), 4, none, true⟩, .q, []⟩,
  ⟨4, ⟨some 17, .fieldAddr 25 (.tmp 5) 0, 0, some (some 16), false⟩, .q, []⟩,
  ⟨5, ⟨some 18, .load 3 (.tmp 17), 3, some (some 16), false⟩, .h, []⟩,
  ⟨6, ⟨some 19, .binOp .gtr 3 (.tmp 18) (.const (.int .i64 24)) 3, 4, some (some 16), false⟩, .q, []⟩,
  ⟨7, ⟨some 20, .pick (.tmp 16) (.const (.bool true)) (.tmp 19), 4, none, true⟩, .q, []⟩,
  ⟨8, ⟨some 21, .move (.tmp 20), 4, none, true⟩, .q, []⟩,
  ⟨9, ⟨some 22, .fieldAddr 25 (.tmp 5) 1, 0, some (some 21), false⟩, .q, []⟩,
  ⟨10, ⟨some 23, .load 3 (.tmp 22), 3, some (some 21), false⟩, .h, []⟩,
  ⟨11, ⟨some 24, .binOp .lss 3 (.tmp 23) (.const (.int .i64 1)) 3, 4, some (some 21), false⟩, .q, []⟩,
  ⟨12, ⟨some 25, .pick (.tmp 21) (.const (.bool true)) (.tmp 24), 4, none, true⟩, .q, []⟩,
  ⟨13, ⟨some 26, .move (.tmp 25), 4, none, true⟩, .q, []⟩,
  ⟨14, ⟨some 27, .fieldAddr 25 (.tmp 5) 1, 0, some (some 26), false⟩, .q, []⟩,
  ⟨15, ⟨some 28, .load 3 (.tmp 27), 3, some (some 26), false⟩, .h, []⟩,
  ⟨16, ⟨some 29, .binOp .gtr 3 (.tmp 28) (.const (.int .i64 12)) 3, 4, some (some 26), false⟩, .q, []⟩,
  ⟨17, ⟨some 30, .pick (.tmp 26) (.const (.bool true)) (.tmp 29), 4, none, true⟩, .q, []⟩,
  ⟨18, ⟨some 31, .move (.tmp 30), 4, none, true⟩, .q, []⟩,
  ⟨19, ⟨some 32, .fieldAddr 25 (.tmp 5) 2, 0, some (some 31), false⟩, .q, []⟩,
  ⟨20, ⟨some 33, .load 3 (.tmp 32), 3, some (some 31), false⟩, .h, []⟩,
  ⟨21, ⟨some 34, .binOp .neq 3 (.tmp 33) (.const (.int .i64 1)) 3, 4, some (some 31), false⟩, .q, []⟩,
  ⟨22, ⟨some 35, .move (.tmp 34), 4, some (some 31), false⟩, .q, []⟩,
  ⟨23, ⟨some 36, .fieldAddr 25 (.tmp 5) 2, 0, some (some 35), true⟩, .q, []⟩,
  ⟨24, ⟨some 37, .load 3 (.tmp 36), 3, some (some 35), true⟩, .h, []⟩,
  ⟨25, ⟨some 38, .binOp .neq 3 (.tmp 37) (.const (.int .i64 2)) 3, 4, some (some 35), true⟩, .q, []⟩,
  ⟨26, ⟨some 39, .pick (.tmp 35) (.tmp 38) (.const (.bool false)), 4, some (some 31), false⟩, .q, []⟩,
  ⟨27, ⟨some 40, .pick (.tmp 31) (.const (.bool true)) (.tmp 39), 4, none, true⟩, .q, []⟩,
  ⟨28, ⟨some 41, .move (.tmp 40), 4, none, true⟩, .q, []⟩,
  ⟨29, ⟨some 42, .fieldAddr 25 (.tmp 5) 3, 0, some (some 41), false⟩, .q, []⟩,
  ⟨30, ⟨some 43, .load 2 (.tmp 42), 2, some (some 41), false⟩, .h, []⟩,
  ⟨31, ⟨some 44, .binOp .lss 2 (.tmp 43) (.const (.int .i64 0)) 2, 4, some (some 41), false⟩, .q, []⟩,
  ⟨32, ⟨some 45, .pick (.tmp 41) (.const (.bool true)) (.tmp 44), 4, none, true⟩, .q, []⟩,
  ⟨33, ⟨some 46, .move (.tmp 45), 4, none, true⟩, .q, []⟩,
  ⟨34, ⟨some 47, .fieldAddr 25 (.tmp 5) 3, 0, some (some 46), false⟩, .q, []⟩,
  ⟨35, ⟨some 48, .load 2 (.tmp 47), 2, some (some 46), false⟩, .h, []⟩,
  ⟨36, ⟨some 49, .binOp .gtr 2 (.tmp 48) (.const (.int .i64 1000000000000)) 2, 4, some (some 46), false⟩, .q, []⟩,
  ⟨37, ⟨some 50, .pick (.tmp 46) (.const (.bool true)) (.tmp 49), 4, none, true⟩, .q, []⟩,
  ⟨38, ⟨some 51, .move (.tmp 50), 4, none, true⟩, .q, []⟩,
  ⟨39, ⟨some 52, .move (.tmp 4), 3, some (some 51), false⟩, .q, []⟩,
  ⟨40, ⟨some 53, .binOp .gtr 3 (.tmp 52) (.const (.int .i64 0)) 3, 4, some (some 51), false⟩, .q, []⟩,
  ⟨41, ⟨some 54, .move (.tmp 53), 4, some (some 51), false⟩, .q, []⟩,
  ⟨42, ⟨some 55, .move (.tmp 0), 23, some (some 54), true⟩, .q, []⟩,
  ⟨43, ⟨some 56, .move (.tmp 4), 3, some (some 54), true⟩, .q, []⟩,
  ⟨44, ⟨some 57, .binOp .sub 3 (.tmp 56) (.const (.int .i64 1)) 3, 3, some (some 54), true⟩, .q, []⟩,
  ⟨45, ⟨some 58, .indexAddr 23 (.tmp 55) (.tmp 57), 0, some (some 54), true⟩, .q, []⟩,
  ⟨46, ⟨some 59, .fieldAddr 25 (.tmp 58) 0, 0, some (some 54), true⟩, .q, []⟩,
  ⟨47, ⟨some 60, .load 3 (.tmp 59), 3, some (some 54), true⟩, .h, []⟩,
  ⟨48, ⟨some 61, .fieldAddr 25 (.tmp 5) 0, 0, some (some 54), true⟩, .q, []⟩,
  ⟨49, ⟨some 62, .load 3 (.tmp 61), 3, some (some 54), true⟩, .h, []⟩,
  ⟨50, ⟨some 63, .binOp .geq 3 (.tmp 60) (.tmp 62) 3, 4, some (some 54), true⟩, .q, []⟩,
  ⟨51, ⟨some 64, .pick (.tmp 54) (.tmp 63) (.const (.bool false)), 4, some (some 51), false⟩, .q, []⟩,
  ⟨52, ⟨some 65, .pick (.tmp 51) (.const (.bool true)) (.tmp 64), 4, none, true⟩, .q, []⟩]
theorem dc18_5 : drawC ap (drawOf T.c18 5).toList [0, 1, 2, 3, 4, 5, 6, 7, 8, 9, 10, 11, 12, 13, 14, 15, 16, 17, 18, 19, 20, 21, 22, 23, 24, 25, 26, 27, 28, 29, 30, 31, 32, 33, 34, 35, 36, 37, 38, 39, 40, 41, 42, 43, 44, 45, 46, 47, 48, 49, 50, 51, 52] [[], [0], [0, 1], [0, 1, 2], [0, 1, 2, 3], [0, 1, 2, 3, 4], [0, 1, 2, 3, 4, 5], [0, 1, 2, 3, 4, 5, 6], [0, 1, 2, 3, 4, 5, 6, 7], [0, 1, 2, 3, 4, 5, 6, 7, 8], [0, 1, 2, 3, 4, 5, 6, 7, 8, 9], [0, 1, 2, 3, 4, 5, 6, 7, 8, 9, 10], [0, 1, 2, 3, 4, 5, 6, 7, 8, 9, 10, 11], [0, 1, 2, 3, 4, 5, 6, 7, 8, 9, 10, 11, 12], [0, 1, 2, 3, 4, 5, 6, 7, 8, 9, 10, 11, 12, 13], [0, 1, 2, 3, 4, 5, 6, 7, 8, 9, 10, 11, 12, 13, 14], [0, 1, 2, 3, 4, 5, 6, 7, 8, 9, 10, 11, 12, 13, 14, 15], [0, 1, 2, 3, 4, 5, 6, 7, 8, 9, 10, 11, 12, 13, 14, 15, 16], [0, 1, 2, 3, 4, 5, 6, 7, 8, 9, 10, 11, 12, 13, 14, 15, 16, 17], [0, 1, 2, 3, 4, 5, 6, 7, 8, 9, 10, 11, 12, 13, 14, 15, 16, 17, 18], [0, 1, 2, 3, 4, 5, 6, 7, 8, 9, 10, 11, 12, 13, 14, 15, 16, 17, 18, 19], [0, 1, 2, 3, 4, 5, 6, 7, 8, 9, 10, 11, 12, 13, 14, 15, 16, 17, 18, 19, 20], [0, 1, 2, 3, 4, 5, 6, 7, 8, 9, 10, 11, 12, 13, 14, 15, 16, 17, 18, 19, 20, 21], [0, 1, 2, 3, 4, 5, 6, 7, 8, 9, 10, 11, 12, 13, 14, 15, 16, 17, 18, 19, 20, 21, 22], [0, 1, 2, 3, 4, 5, 6, 7, 8, 9, 10, 11, 12, 13, 14, 15, 16, 17, 18, 19, 20, 21, 22, 23], [0, 1, 2, 3, 4, 5, 6, 7, 8, 9, 10, 11, 12, 13, 14, 15, 16, 17, 18, 19, 20, 21, 22, 23, 24], [0, 1, 2, 3, 4, 5, 6, 7, 8, 9, 10, 11, 12, 13, 14, 15, 16, 17, 18, 19, 20, 21, 22, 23, 24, 25], [0, 1, 2, 3, 4, 5, 6, 7, 8, 9, 10, 11, 12, 13, 14, 15, 16, 17, 18, 19, 20, 21, 22, 23, 24, 25, 26], [0, 1, 2, 3, 4, 5, 6, 7, 8, 9, 10, 11, 12, 13, 14, 15, 16, 17, 18, 19, 20, 21, 22, 23, 24, 25, 26, 27], [0, 1, 2, 3, 4, 5, 6, 7, 8, 9, 10, 11, 12, 13, 14, 15, 16, 17, 18, 19, 20, 21, 22, 23, 24, 25, 26, 27, 28], [0, 1, 2, 3, 4, 5, 6, 7, 8, 9, 10, 11, 12, 13, 14, 15, 16, 17, 18, 19, 20, 21, 22, 23, 24, 25, 26, 27, 28, 29], [0, 1, 2, 3, 4, 5, 6, 7, 8, 9, 10, 11, 12, 13, 14, 15, 16, 17, 18, 19, 20, 21, 22, 23, 24, 25, 26, 27, 28, 29, 30], [0, 1, 2, 3, 4, 5, 6, 7, 8, 9, 10, 11, 12, 13, 14, 15, 16, 17, 18, 19, 20, 21, 22, 23, 24, 25, 26, 27, 28, 29, 30, 31], [0, 1, 2, 3, 4, 5, 6, 7, 8, 9, 10, 11, 12, 13, 14, 15, 16, 17, 18, 19, 20, 21, 22, 23, 24, 25, 26, 27, 28, 29, 30, 31, 32], [0, 1, 2, 3, 4, 5, 6, 7, 8, 9, 10, 11, 12, 13, 14, 15, 16, 17, 18, 19, 20, 21, 22, 23, 24, 25, 26, 27, 28, 29, 30, 31, 32, 33], [0, 1, 2, 3, 4, 5, 6, 7, 8, 9, 10, 11, 12, 13, 14, 15, 16, 17, 18, 19, 20, 21, 22, 23, 24, 25, 26, 27, 28, 29, 30, 31, 32, 33, 34], [0, 1, 2, 3, 4, 5, 6, 7, 8, 9, 10, 11, 12, 13, 14, 15, 16, 17, 18, 19, 20, 21, 22, 23, 24, 25, 26, 27, 28, 29, 30, 31, 32, 33, 34, 35], [0, 1, 2, 3, 4, 5, 6, 7, 8, 9, 10, 11, 12, 13, 14, 15, 16, 17, 18, 19, 20, 21, 22, 23, 24, 25, 26, 27, 28, 29, 30, 31, 32, 33, 34, 35, 36], [0, 1, 2, 3, 4, 5, 6, 7, 8, 9, 10, 11, 12, 13, 14, 15, 16, 17, 18, 19, 20, 21, 22, 23, 24, 25, 26, 27, 28, 29, 30, 31, 32, 33, 34, 35, 36, 37], [0, 1, 2, 3, 4, 5, 6, 7, 8, 9, 10, 11, 12, 13, 14, 15, 16, 17, 18, 19, 20, 21, 22, 23, 24, 25, 26, 27, 28, 29, 30, 31, 32, 33, 34, 35, 36, 37, 38], [0, 1, 2, 3, 4, 5, 6, 7, 8, 9, 10, 11, 12, 13, 14, 15, 16, 17, 18, 19, 20, 21, 22, 23, 24, 25, 26, 27, 28, 29, 30, 31, 32, 33, 34, 35, 36, 37, 38, 39], [0, 1, 2, 3, 4, 5, 6, 7, 8, 9, 10, 11, 12, 13, 14, 15, 16, 17, 18, 19, 20, 21, 22, 23, 24, 25, 26, 27, 28, 29, 30, 31, 32, 33, 34, 35, 36, 37, 38, 39, 40], [0, 1, 2, 3, 4, 5, 6, 7, 8, 9, 10, 11, 12, 13, 14, 15, 16, 17, 18, 19, 20, 21, 22, 23, 24, 25, 26, 27, 28, 29, 30, 31, 32, 33, 34, 35, 36, 37, 38, 39, 40, 41], [0, 1, 2, 3, 4, 5, 6, 7, 8, 9, 10, 11, 12, 13, 14, 15, 16, 17, 18, 19, 20, 21, 22, 23, 24, 25, 26, 27, 28, 29, 30, 31, 32, 33, 34, 35, 36, 37, 38, 39, 40, 41], [0, 1, 2, 3, 4, 5, 6, 7, 8, 9, 10, 11, 12, 13, 14, 15, 16, 17, 18, 19, 20, 21, 22, 23, 24, 25, 26, 27, 28, 29, 30, 31, 32, 33, 34, 35, 36, 37, 38, 39, 40, 41, 43], [0, 1, 2, 3, 4, 5, 6, 7, 8, 9, 10, 11, 12, 13, 14, 15, 16, 17, 18, 19, 20, 21, 22, 23, 24, 25, 26, 27, 28, 29, 30, 31, 32, 33, 34, 35, 36, 37, 38, 39, 40, 41, 42, 43, 44], [0, 1, 2, 3, 4, 5, 6, 7, 8, 9, 10, 11, 12, 13, 14, 15, 16, 17, 18, 19, 20, 21, 22, 23, 24, 25, 26, 27, 28, 29, 30, 31, 32, 33, 34, 35, 36, 37, 38, 39, 40, 41, 42, 43, 44, 45], [0, 1, 2, 3, 4, 5, 6, 7, 8, 9, 10, 11, 12, 13, 14, 15, 16, 17, 18, 19, 20, 21, 22, 23, 24, 25, 26, 27, 28, 29, 30, 31, 32, 33, 34, 35, 36, 37, 38, 39, 40, 41, 42, 43, 44, 45, 46], [0, 1, 2, 3, 4, 5, 6, 7, 8, 9, 10, 11, 12, 13, 14, 15, 16, 17, 18, 19, 20, 21, 22, 23, 24, 25, 26, 27, 28, 29, 30, 31, 32, 33, 34, 35, 36, 37, 38, 39, 40, 41], [0, 1, 2, 3, 4, 5, 6, 7, 8, 9, 10, 11, 12, 13, 14, 15, 16, 17, 18, 19, 20, 21, 22, 23, 24, 25, 26, 27, 28, 29, 30, 31, 32, 33, 34, 35, 36, 37, 38, 39, 40, 41, 48], [0, 1, 2, 3, 4, 5, 6, 7, 8, 9, 10, 11, 12, 13, 14, 15, 16, 17, 18, 19, 20, 21, 22, 23, 24, 25, 26, 27, 28, 29, 30, 31, 32, 33, 34, 35, 36, 37, 38, 39, 40, 41, 42, 43, 44, 45, 46, 47, 48, 49], [0, 1, 2, 3, 4, 5, 6, 7, 8, 9, 10, 11, 12, 13, 14, 15, 16, 17, 18, 19, 20, 21, 22, 23, 24, 25, 26, 27, 28, 29, 30, 31, 32, 33, 34, 35, 36, 37, 38, 39, 40, 41, 42, 43, 44, 45, 46, 47, 48, 49, 50], [0, 1, 2, 3, 4, 5, 6, 7, 8, 9, 10, 11, 12, 13, 14, 15, 16, 17, 18, 19, 20, 21, 22, 23, 24, 25, 26, 27, 28, 29, 30, 31, 32, 33, 34, 35, 36, 37, 38, 39, 40, 41, 42, 43, 44, 45, 46, 47, 48, 49, 50, 51]] = some d18_5 := by kernel_rfl
def d21_13 : List DP := [⟨0, ⟨some 51, .move (.tmp 12), 3, none, true⟩, .q, []⟩,
  ⟨1, ⟨some 52, .move (.tmp 1), 23, none, true⟩, .q, []⟩,
  ⟨2, ⟨some 53, .call (⟨.builtin .len, #[.tmp 52], #[23]⟩), 3, none, true⟩, .q, []⟩,
  ⟨3, ⟨some 54, .binOp .lss 3 (.tmp 51) (.tmp 53) 3, 4, none, true⟩, .q, []⟩,
  ⟨4, ⟨some 55, .move (.tmp 54), 4, none, true⟩, .q, []⟩,
  ⟨5, ⟨some 56, .move (.tmp 1), 23, some (some 55), true⟩, .q, []⟩,
  ⟨6, ⟨some 57, .move (.tmp 12), 3, some (some 55), true⟩, .q, []⟩,
  ⟨7, ⟨some 58, .indexAddr 23 (.tmp 56) (.tmp 57), 0, some (some 55), true⟩, .q, []⟩,
  ⟨8, ⟨some 59, .fieldAddr 25 (.tmp 58) 0, 0, some (some 55), true⟩, .q, []⟩,
  ⟨9, ⟨some 60, .load 3 (.tmp 59), 3, some (some 55), true⟩, .h, []⟩,
  ⟨10, ⟨some 61, .fieldAddr 25 (.tmp 5) 0, 0, some (some 55), true⟩, .q, []⟩,
  ⟨11, ⟨some 62, .load 3 (.tmp 61), 3, some (some 55), true⟩, .h, []⟩,
  ⟨12, ⟨some 63, .binOp .lss 3 (.tmp 60) (.tmp 62) 3, 4, some (some 55), true⟩, .q, []⟩,
  ⟨13, ⟨some 64, .pick (.tmp 55) (.tmp 63) (.const (.bool false)), 4, none, true⟩, .q, []⟩]
theorem dc21_13 : drawC ap (drawOf T.c21 13).toList [0, 1, 2, 3, 4, 5, 6, 7, 8, 9, 10, 11, 12, 13] [[], [], [1], [0, 1, 2], [0, 1, 2, 3], [0, 1, 2, 3, 4], [0, 1, 2, 3, 4], [0, 1, 2, 3, 4, 5, 6], [0, 1, 2, 3, 4, 5, 6, 7], [0, 1, 2, 3, 4, 5, 6, 7, 8], [0, 1, 2, 3, 4], [0, 1, 2, 3, 4, 10], [0, 1, 2, 3, 4, 5, 6, 7, 8, 9, 10, 11], [0, 1, 2, 3, 4, 5, 6, 7, 8, 9, 10, 11, 12]] = some d21_13 := by kernel_rfl
def d25_6 : List DP := [⟨0, ⟨some 17, .move (.tmp 0), 22, none, true⟩, .q, []⟩,
  ⟨1, ⟨some 18, .move (.tmp 5), 3, none, true⟩, .q, []⟩,
  ⟨2, ⟨some 19, .indexAddr 22 (.tmp 17) (.tmp 18), 0, none, true⟩, .q, []⟩,
  ⟨3, ⟨some 20, .load 39 (.tmp 19), 39, none, true⟩, .h, []⟩,
  ⟨4, ⟨some 21, .move (.tmp 1), 22, none, true⟩, .q, []⟩,
  ⟨5, ⟨some 22, .move (.tmp 5), 3, none, true⟩, .q, []⟩,
  ⟨6, ⟨some 23, .indexAddr 22 (.tmp 21) (.tmp 22), 0, none, true⟩, .q, []⟩,
  ⟨7, ⟨some 24, .load 39 (.tmp 23), 39, none, true⟩, .h, []⟩,
  ⟨8, ⟨some 25, .binOp .neq 39 (.tmp 20) (.tmp 24) 39, 4, none, true⟩, .q, []⟩]
theorem dc25_6 : drawC ap (drawOf T.c25 6).toList [0, 1, 2, 3, 4, 5, 6, 7, 8] [[], [], [0, 1], [0, 1, 2], [], [], [4, 5], [4, 5, 6], [0, 1, 2, 3, 4, 5, 6, 7]] = some d25_6 := by kernel_rfl
def d26_6 : List DP := [⟨0, ⟨some 17, .move (.tmp 0), 23, none, true⟩, .q, []⟩,
  ⟨1, ⟨some 18, .move (.tmp 5), 3, none, true⟩, .q, []⟩,
  ⟨2, ⟨some 19, .indexAddr 23 (.tmp 17) (.tmp 18), 0, none, true⟩, .q, []⟩,
  ⟨3, ⟨some 20, .load 25 (.tmp 19), 25, none, true⟩, .h, []⟩,
  ⟨4, ⟨some 21, .move (.tmp 1), 23, none, true⟩, .q, []⟩,
  ⟨5, ⟨some 22, .move (.tmp 5), 3, none, true⟩, .q, []⟩,
  ⟨6, ⟨some 23, .indexAddr 23 (.tmp 21) (.tmp 22), 0, none, true⟩, .q, []⟩,
  ⟨7, ⟨some 24, .load 25 (.tmp 23), 25, none, true⟩, .h, []⟩,
  ⟨8, ⟨some 25, .binOp .neq 25 (.tmp 20) (.tmp 24) 25, 4, none, true⟩, .q, []⟩]
theorem dc26_6 : drawC ap (drawOf T.c26 6).toList [0, 1, 2, 3, 4, 5, 6, 7, 8] [[], [], [0, 1], [0, 1, 2], [], [], [4, 5], [4, 5, 6], [0, 1, 2, 3, 4, 5, 6, 7]] = some d26_6 := by kernel_rfl
def d27_4 : List DP := [⟨0, ⟨some 10, .move (.tmp 0), 22, none, true⟩, .q, []⟩,
  ⟨1, ⟨some 11, .move (.tmp 3), 3, none, true⟩, .q, []⟩,
  ⟨2, ⟨some 12, .indexAddr 22 (.tmp 10) (.tmp 11), 0, none, true⟩, .q, []⟩,
  ⟨3, ⟨some 13, .fieldAddr 39 (.tmp 12) 0, 0, none, true⟩, .q, []⟩,
  ⟨4, ⟨some 14, .load 3 (.tmp 13), 3, none, true⟩, .h, []⟩,
  ⟨5, ⟨some 15, .binOp .lss 3 (.tmp 14) (.const (.int .i64 1)) 3, 4, none, true⟩, .q, []⟩,
  ⟨6, ⟨some 16, .move (.tmp 15), 4, none, true⟩, .q, []⟩,
  ⟨7, ⟨some 17, .move (.tmp 0), 22, some (some 16), false⟩, .q, []⟩,
  ⟨8, ⟨some 18, .move (.tmp 3), 3, some (some 16), false⟩, .q, []⟩,
  ⟨9, ⟨some 19, .indexAddr 22 (.tmp 17) (.tmp 18), 0, some (some 16), false⟩, .q, []⟩,
  ⟨10, ⟨some 20, .fieldAddr 39 (.tmp 19) 0, 0, some (some 16), false⟩, .q, []⟩,
  ⟨11, ⟨some 21, .load 3 (.tmp 20), 3, some (some 16), false⟩, .h, []⟩,
  ⟨12, ⟨some 22, .binOp .gtr 3 (.tmp 21) (.const (.int .i64 12)) 3, 4, some (some 16), false⟩, .q, []⟩,
  ⟨13, ⟨some 23, .pick (.tmp 16) (.const (.bool true)) (.tmp 22), 4, none, true⟩, .q, []⟩,
  ⟨14, ⟨some 24, .move (.tmp 23), 4, none, true⟩, .q, []⟩,
  ⟨15, ⟨some 25, .move (.tmp 0), 22, some (some 24), false⟩, .q, []⟩,
  ⟨16, ⟨some 26, .move (.tmp 3), 3, some (some 24), false⟩, .q, []⟩,
  ⟨17, ⟨some 27, .indexAddr 22 (.tmp 25) (.tmp 26), 0, some (some 24), false⟩, .q, []⟩,
  ⟨18, ⟨some 28, .fieldAddr 39 (.tmp 27) 1, 0, some (some 24), false⟩, .q, []⟩,
  ⟨19, ⟨some 29, .load 3 (.tmp 28), 3, some (some 24), false⟩, .h, []⟩,
  ⟨20, ⟨some 30, .binOp .lss 3 (.tmp 29) (.const (.int .i64 1)) 3, 4, some (some 24), false⟩, .q, []⟩,
  ⟨21, ⟨some 31, .pick (.tmp 24) (.const (.bool true)) (.tmp 30), 4, none, true⟩, .q, []⟩,
  ⟨22, ⟨some 32, .move (.tmp 31), 4, none, true⟩, .q, []⟩,
  ⟨23, ⟨some 33, .move (.tmp 0), 22, some (some 32), false⟩, .q, []⟩,
  ⟨24, ⟨some 34, .move (.tmp 3), 3, some (some 32), false⟩, .q, []⟩,
  ⟨25, ⟨some 35, .indexAddr 22 (.tmp 33) (.tmp 34), 0, some (some 32), false⟩, .q, []⟩,
  ⟨26, ⟨some 36, .fieldAddr 39 (.tmp 35) 1, 0, some (some 32), false⟩, .q, []⟩,
  ⟨27, ⟨some 37, .load 3 (.tmp 36), 3, some (some 32), false⟩, .h, []⟩,
  ⟨28, ⟨some 38, .binOp .gtr 3 (.tmp 37) (.const (.int .i64 4)) 3, 4, some (some 32), false⟩, .q, []⟩,
  ⟨29, ⟨some 39, .pick (.tmp 32) (.const (.bool true)) (.tmp 38), 4, none, true⟩, .q, []⟩,
  ⟨30, ⟨some 40, .move (.tmp 39), 4, none, true⟩, .q, []⟩,
  ⟨31, ⟨some 41, .move (.tmp 3), 3, some (some 40), false⟩, .q, []⟩,
  ⟨32, ⟨some 42, .binOp .gtr 3 (.tmp 41) (.const (.int .i64 0)) 3, 4, some (some 40), false⟩, .q, []⟩,
  ⟨33, ⟨some 43, .move (.tmp 42), 4, some (some 40), false⟩, .q, []⟩,
  ⟨34, ⟨some 44, .move (.tmp 0), 22, some (some 43), true⟩, .q, []⟩,
  ⟨35, ⟨some 45, .move (.tmp 3), 3, some (some 43), true⟩, .q, []⟩,
  ⟨36, ⟨some 46, .indexAddr 22 (.tmp 44) (.tmp 45), 0, some (some 43), true⟩, .q, []⟩,
  ⟨37, ⟨some 47, .fieldAddr 39 (.tmp 46) 0, 0, some (some 43), true⟩, .q, []⟩,
  ⟨38, ⟨some 48, .load 3 (.tmp 47), 3, some (some 43), true⟩, .h, []⟩,
  ⟨39, ⟨some 49, .move (.tmp 0), 22, some (some 43), true⟩, .q, []⟩,
  ⟨40, ⟨some 50, .move (.tmp 3), 3, some (some 43), true⟩, .q, []⟩,
  ⟨41, ⟨some 51, .binOp .sub 3 (.tmp 50) (.const (.int .i64 1)) 3, 3, some (some 43), true⟩, .q, []⟩,
  ⟨42, ⟨some 52, .indexAddr 22 (.tmp 49) (.tmp 51), 0, some (some 43), true⟩, .q, []⟩,
  ⟨43, ⟨some 53, .fieldAddr 39 (.tmp 52) 0, 0, some (some 43), true⟩, .q, []⟩,
  ⟨44, ⟨some 54, .load 3 (.tmp 53), 3, some (some 43), true⟩, .h, []⟩,
  ⟨45, ⟨some 55, .binOp .leq 3 (.tmp 48) (.tmp 54) 3, 4, some (some 43), true⟩, .q, []⟩,
  ⟨46, ⟨some 56, .pick (.tmp 43) (.tmp 55) (.const (.bool false)), 4, some (some 40), false⟩, .q, []⟩,
  ⟨47, ⟨some 57, .pick (.tmp 40) (.const (.bool true)) (.tmp 56), 4, none, true⟩, .q, []⟩]
theorem dc27_4 : drawC ap (drawOf T.c27 4).toList [0, 1, 2, 3, 4, 5, 6, 7, 8, 9, 10, 11, 12, 13, 14, 15, 16, 17, 18, 19, 20, 21, 22, 23, 24, 25, 26, 27, 28, 29, 30, 31, 32, 33, 34, 35, 36, 37, 38, 39, 40, 41, 42, 43, 44, 45, 46, 47] [[], [], [0, 1], [0, 1, 2], [0, 1, 2, 3], [0, 1, 2, 3, 4], [0, 1, 2, 3, 4, 5], [0, 1, 2, 3, 4, 5, 6], [0, 1, 2, 3, 4, 5, 6], [0, 1, 2, 3, 4, 5, 6, 7, 8], [0, 1, 2, 3, 4, 5, 6, 7, 8, 9], [0, 1, 2, 3, 4, 5, 6, 7, 8, 9, 10], [0, 1, 2, 3, 4, 5, 6, 7, 8, 9, 10, 11], [0, 1, 2, 3, 4, 5, 6, 7, 8, 9, 10, 11, 12], [0, 1, 2, 3, 4, 5, 6, 7, 8, 9, 10, 11, 12, 13], [0, 1, 2, 3, 4, 5, 6, 7, 8, 9, 10, 11, 12, 13, 14], [0, 1, 2, 3, 4, 5, 6, 7, 8, 9, 10, 11, 12, 13, 14], [0, 1, 2, 3, 4, 5, 6, 7, 8, 9, 10, 11, 12, 13, 14, 15, 16], [0, 1, 2, 3, 4, 5, 6, 7, 8, 9, 10, 11, 12, 13, 14, 15, 16, 17], [0, 1, 2, 3, 4, 5, 6, 7, 8, 9, 10, 11, 12, 13, 14, 15, 16, 17, 18], [0, 1, 2, 3, 4, 5, 6, 7, 8, 9, 10, 11, 12, 13, 14, 15, 16, 17, 18, 19], [0, 1, 2, 3, 4, 5, 6, 7, 8, 9, 10, 11, 12, 13, 14, 15, 16, 17, 18, 19, 20], [0, 1, 2, 3, 4, 5, 6, 7, 8, 9, 10, 11, 12, 13, 14, 15, 16, 17, 18, 19, 20, 21], [0, 1, 2, 3, 4, 5, 6, 7, 8, 9, 10, 11, 12, 13, 14, 15, 16, 17, 18, 19, 20, 21, 22], [0, 1, 2, 3, 4, 5, 6, 7, 8, 9, 10, 11, 12, 13, 14, 15, 16, 17, 18, 19, 20, 21, 22], [0, 1, 2, 3, 4, 5, 6, 7, 8, 9, 10, 11, 12, 13, 14, 15, 16, 17, 18, 19, 20, 21, 22, 23, 24], [0, 1, 2, 3, 4, 5, 6, 7, 8, 9, 10, 11, 12, 13, 14, 15, 16, 17, 18, 19, 20, 21, 22, 23, 24, 25], [0, 1, 2, 3, 4, 5, 6, 7, 8, 9, 10, 11, 12, 13, 14, 15, 16, 17, 18, 19, 20, 21, 22, 23, 24, 25, 26], [0, 1, 2, 3, 4, 5, 6, 7, 8, 9, 10, 11, 12, 13, 14, 15, 16, 17, 18, 19, 20, 21, 22, 23, 24, 25, 26, 27], [0, 1, 2, 3, 4, 5, 6, 7, 8, 9, 10, 11, 12, 13, 14, 15, 16, 17, 18, 19, 20, 21, 22, 23, 24, 25, 26, 27, 28], [0, 1, 2, 3, 4, 5, 6, 7, 8, 9, 10, 11, 12, 13, 14, 15, 16, 17, 18, 19, 20, 21, 22, 23, 24, 25, 26, 27, 28, 29], [0, 1, 2, 3, 4, 5, 6, 7, 8, 9, 10, 11, 12, 13, 14, 15, 16, 17, 18, 19, 20, 21, 22, 23, 24, 25, 26, 27, 28, 29, 30], [0, 1, 2, 3, 4, 5, 6, 7, 8, 9, 10, 11, 12, 13, 14, 15, 16, 17, 18, 19, 20, 21, 22, 23, 24, 25, 26, 27, 28, 29, 30, 31], [0, 1, 2, 3, 4, 5, 6, 7, 8, 9, 10, 11, 12, 13, 14, 15, 16, 17, 18, 19, 20, 21, 22, 23, 24, 25, 26, 27, 28, 29, 30, 31, 32], [0, 1, 2, 3, 4, 5, 6, 7, 8, 9, 10, 11, 12, 13, 14, 15, 16, 17, 18, 19, 20, 21, 22, 23, 24, 25, 26, 27, 28, 29, 30, 31, 32, 33], [0, 1, 2, 3, 4, 5, 6, 7, 8, 9, 10, 11, 12, 13, 14, 15, 16, 17, 18, 19, 20, 21, 22, 23, 24, 25, 26, 27, 28, 29, 30, 31, 32, 33], [0, 1, 2, 3, 4, 5, 6, 7, 8, 9, 10, 11, 12, 13, 14, 15, 16, 17, 18, 19, 20, 21, 22, 23, 24, 25, 26, 27, 28, 29, 30, 31, 32, 33, 34, 35], [0, 1, 2, 3, 4, 5, 6, 7, 8, 9, 10, 11, 12, 13, 14, 15, 16, 17, 18, 19, 20, 21, 22, 23, 24, 25, 26, 27, 28, 29, 30, 31, 32, 33, 34, 35, 36], [0, 1, 2, 3, 4, 5, 6, 7, 8, 9, 10, 11, 12, 13, 14, 15, 16, 17, 18, 19, 20, 21, 22, 23, 24, 25, 26, 27, 28, 29, 30, 31, 32, 33, 34, 35, 36, 37], [0, 1, 2, 3, 4, 5, 6, 7, 8, 9, 10, 11, 12, 13, 14, 15, 16, 17, 18, 19, 20, 21, 22, 23, 24, 25, 26, 27, 28, 29, 30, 31, 32, 33], [0, 1, 2, 3, 4, 5, 6, 7, 8, 9, 10, 11, 12, 13, 14, 15, 16, 17, 18, 19, 20, 21, 22, 23, 24, 25, 26, 27, 28, 29, 30, 31, 32, 33], [0, 1, 2, 3, 4, 5, 6, 7, 8, 9, 10, 11, 12, 13, 14, 15, 16, 17, 18, 19, 20, 21, 22, 23, 24, 25, 26, 27, 28, 29, 30, 31, 32, 33, 40], [0, 1, 2, 3, 4, 5, 6, 7, 8, 9, 10, 11, 12, 13, 14, 15, 16, 17, 18, 19, 20, 21, 22, 23, 24, 25, 26, 27, 28, 29, 30, 31, 32, 33, 39, 40, 41], [0, 1, 2, 3, 4, 5, 6, 7, 8, 9, 10, 11, 12, 13, 14, 15, 16, 17, 18, 19, 20, 21, 22, 23, 24, 25, 26, 27, 28, 29, 30, 31, 32, 33, 39, 40, 41, 42], [0, 1, 2, 3, 4, 5, 6, 7, 8, 9, 10, 11, 12, 13, 14, 15, 16, 17, 18, 19, 20, 21, 22, 23, 24, 25, 26, 27, 28, 29, 30, 31, 32, 33, 39, 40, 41, 42, 43], [0, 1, 2, 3, 4, 5, 6, 7, 8, 9, 10, 11, 12, 13, 14, 15, 16, 17, 18, 19, 20, 21, 22, 23, 24, 25, 26, 27, 28, 29, 30, 31, 32, 33, 34, 35, 36, 37, 38, 39, 40, 41, 42, 43, 44], [0, 1, 2, 3, 4, 5, 6, 7, 8, 9, 10, 11, 12, 13, 14, 15, 16, 17, 18, 19, 20, 21, 22, 23, 24, 25, 26, 27, 28, 29, 30, 31, 32, 33, 34, 35, 36, 37, 38, 39, 40, 41, 42, 43, 44, 45], [0, 1, 2, 3, 4, 5, 6, 7, 8, 9, 10, 11, 12, 13, 14, 15, 16, 17, 18, 19, 20, 21, 22, 23, 24, 25, 26, 27, 28, 29, 30, 31, 32, 33, 34, 35, 36, 37, 38, 39, 40, 41, 42, 43, 44, 45, 46]] = some d27_4 := by kernel_rfl
def d28_5 : List DP := [⟨0, ⟨some 16, .fieldAddr 25 (.tmp 4) 0, 0, none, true⟩, .q, []⟩,
  ⟨1, ⟨some 17, .load 3 (.tmp 16), 3, none, true⟩, .h, []⟩,
  ⟨2, ⟨some 18, .binOp .lss 3 (.tmp 17) (.const (.int .i64 1)) 3, 4, none, true⟩, .q, []⟩,
  ⟨3, ⟨some 19, .move (.tmp 18), 4, none, true⟩, .q, []⟩,
  ⟨4, ⟨some 20, .fieldAddr 25 (.tmp 4) 0, 0, some (some 19), false⟩, .q, []⟩,
  ⟨5, ⟨some 21, .load 3 (.tmp 20), 3, some (some 19), false⟩, .h, []⟩,
  ⟨6, ⟨some 22, .binOp .gtr 3 (.tmp 21) (.const (.int .i64 24)) 3, 4, some (some 19), false⟩, .q, []⟩,
  ⟨7, ⟨some 23, .pick (.tmp 19) (.const (.bool true)) (.tmp 22), 4, none, true⟩, .q, []⟩,
  ⟨8, ⟨some 24, .move (.tmp 23), 4, none, true⟩, .q, []⟩,
  ⟨9, ⟨some 25, .fieldAddr 25 (.tmp 4) 1, 0, some (some 24), false⟩, .q, []⟩,
  ⟨10, ⟨some 26, .load 3 (.tmp 25), 3, some (some 24), false⟩, .h, []⟩,
  ⟨11, ⟨some 27, .binOp .lss 3 (.tmp 26) (.const (.int .i64 1)) 3, 4, some (some 24), false⟩, .q, []⟩,
  ⟨12, ⟨some 28, .pick (.tmp 24) (.const (.bool true)) (.tmp 27), 4, none, true⟩, .q, []⟩,
  ⟨13, ⟨some 29, .move (.tmp 28), 4, none, true⟩, .q, []⟩,
  ⟨14, ⟨some 30, .fieldAddr 25 (.tmp 4) 1, 0, some (some 29), false⟩, .q, []⟩,
  ⟨15, ⟨some 31, .load 3 (.tmp 30), 3, some (some 29), false⟩, .h, []⟩,
  ⟨16, ⟨some 32, .binOp .gtr 3 (.tmp 31) (.const (.int .i64 12)) 3, 4, some (some 29), false⟩, .q, []⟩,
  ⟨17, ⟨some 33, .pick (.tmp 29) (.const (.bool true)) (.tmp 32), 4, none, true⟩, .q, []⟩,
  ⟨18, ⟨some 34, .move (.tmp 33), 4, none, true⟩, .q, []⟩,
  ⟨19, ⟨some 35, .fieldAddr 25 (.tmp 4) 2, 0, some (some 34), false⟩, .q, []⟩,
  ⟨20, ⟨some 36, .load 3 (.tmp 35), 3, some (some 34), false⟩, .h, []⟩,
  ⟨21, ⟨some 37, .binOp .neq 3 (.tmp 36) (.const (.int .i64 1)) 3, 4, some (some 34), false⟩, .q, []⟩,
  ⟨22, ⟨some 38, .move (.tmp 37), 4, some (some 34), false⟩, .q, []⟩,
  ⟨23, ⟨some 39, .fieldAddr 25 (.tmp 4) 2, 0, some (some 38), true⟩, .q, []⟩,
  ⟨24, ⟨some 40, .load 3 (.tmp 39), 3, some (some 38), true⟩, .h, []⟩,
  ⟨25, ⟨some 41, .binOp .neq 3 (.tmp 40) (.const (.int .i64 2)) 3, 4, some (some 38), true⟩, .q, []⟩,
  ⟨26, ⟨some 42, .pick (.tmp 38) (.tmp 41) (.const (.bool false)), 4, some (some 34), false⟩, .q, []⟩,
  ⟨27, ⟨some 43, .pick (.tmp 34) (.const (.bool true)) (.tmp 42), 4, none, true⟩, .q, []⟩,
  ⟨28, ⟨some 44, .move (.tmp 43), 4, none, true⟩, .q, []⟩,
  ⟨29, ⟨some 45, .fieldAddr 25 (.tmp 4) 3, 0, some (some 44), false⟩, .q, []⟩,
  ⟨30, ⟨some 46, .load 2 (.tmp 45), 2, some (some 44), false⟩, .h, []⟩,
  ⟨31, ⟨some 47, .binOp .lss 2 (.tmp 46) (.const (.int .i64 0)) 2, 4, some (some 44), false⟩, .q, []⟩,
  ⟨32, ⟨some 48, .pick (.tmp 44) (.const (.bool true)) (.tmp 47), 4, none, true⟩, .q, []⟩,
  ⟨33, ⟨some 49, .move (.tmp 48), 4, none, true⟩, .q, []⟩,
  ⟨34, ⟨some 50, .fieldAddr 25 (.tmp 4) 3, 0, some (some 49), false⟩, .q, []⟩,
  ⟨35, ⟨some 51, .load 2 (.tmp 50), 2, some (some 49), false⟩, .h, []⟩,
  ⟨36, ⟨some 52, .binOp .gtr 2 (.tmp 51) (.const (.int .i64 1000000000000)) 2, 4, some (some 49), false⟩, .q, []⟩,
  ⟨37, ⟨some 53, .pick (.tmp 49) (.const (.bool true)) (.tmp 52), 4, none, true⟩, .q, []⟩,
  ⟨38, ⟨some 54, .move (.tmp 53), 4, none, true⟩, .q, []⟩,
  ⟨39, ⟨some 55, .move (.tmp 3), 3, some (some 54), false⟩, .q, []⟩,
  ⟨40, ⟨some 56, .binOp .gtr 3 (.tmp 55) (.const (.int .i64 0)) 3, 4, some (some 54), false⟩, .q, []⟩,
  ⟨41, ⟨some 57, .move (.tmp 56), 4, some (some 54), false⟩, .q, []⟩,
  ⟨42, ⟨some 58, .fieldAddr 25 (.tmp 4) 0, 0, some (some 57), true⟩, .q, []⟩,
  ⟨43, ⟨some 59, .load 3 (.tmp 58), 3, some (some 57), true⟩, .h, []⟩,
  ⟨44, ⟨some 60, .move (.tmp 0), 23, some (some 57), true⟩, .q, []⟩,
  ⟨45, ⟨some 61, .move (.tmp 3), 3, some (some 57), true⟩, .q, []⟩,
  ⟨46, ⟨some 62, .binOp .sub 3 (.tmp 61) (.const (.int .i64 1)) 3, 3, some (some 57), true⟩, .q, []⟩,
  ⟨47, ⟨some 63, .indexAddr 23 (.tmp 60) (.tmp 62), 0, some (some 57), true⟩, .q, []⟩,
  ⟨48, ⟨some 64, .fieldAddr 25 (.tmp 63) 0, 0, some (some 57), true⟩, .q, []⟩,
  ⟨49, ⟨some 65, .load 3 (.tmp 64), 3, some (some 57), true⟩, .h, []⟩,
  ⟨50, ⟨some 66, .binOp .leq 3 (.tmp 59) (.tmp 65) 3, 4, some (some 57), true⟩, .q, []⟩,
  ⟨51, ⟨some 67, .pick (.tmp 57) (.tmp 66) (.const (.bool false)), 4, some (some 54), false⟩, .q, []⟩,
  ⟨52, ⟨some 68, .pick (.tmp 54) (.const (.bool true)) (.tmp 67), 4, none, true⟩, .q, []⟩]
theorem dc28_5 : drawC ap (drawOf T.c28 5).toList [0, 1, 2, 3, 4, 5, 6, 7, 8, 9, 10, 11, 12, 13, 14, 15, 16, 17, 18, 19, 20, 21, 22, 23, 24, 25, 26, 27, 28, 29, 30, 31, 32, 33, 34, 35, 36, 37, 38, 39, 40, 41, 42, 43, 44, 45, 46, 47, 48, 49, 50, 51, 52] [[], [0], [0, 1], [0, 1, 2], [0, 1, 2, 3], [0, 1, 2, 3, 4], [0, 1, 2, 3, 4, 5], [0, 1, 2, 3, 4, 5, 6], [0, 1, 2, 3, 4, 5, 6, 7], [0, 1, 2, 3, 4, 5, 6, 7, 8], [0, 1, 2, 3, 4, 5, 6, 7, 8, 9], [0, 1, 2, 3, 4, 5, 6, 7, 8, 9, 10], [0, 1, 2, 3, 4, 5, 6, 7, 8, 9, 10, 11], [0, 1, 2, 3, 4, 5, 6, 7, 8, 9, 10, 11, 12], [0, 1, 2, 3, 4, 5, 6, 7, 8, 9, 10, 11, 12, 13], [0, 1, 2, 3, 4, 5, 6, 7, 8, 9, 10, 11, 12, 13, 14], [0, 1, 2, 3, 4, 5, 6, 7, 8, 9, 10, 11, 12, 13, 14, 15], [0, 1, 2, 3, 4, 5, 6, 7, 8, 9, 10, 11, 12, 13, 14, 15, 16], [0, 1, 2, 3, 4, 5, 6, 7, 8, 9, 10, 11, 12, 13, 14, 15, 16, 17], [0, 1, 2, 3, 4, 5, 6, 7, 8, 9, 10, 11, 12, 13, 14, 15, 16, 17, 18], [0, 1, 2, 3, 4, 5, 6, 7, 8, 9, 10, 11, 12, 13, 14, 15, 16, 17, 18, 19], [0, 1, 2, 3, 4, 5, 6, 7, 8, 9, 10, 11, 12, 13, 14, 15, 16, 17, 18, 19, 20], [0, 1, 2, 3, 4, 5, 6, 7, 8, 9, 10, 11, 12, 13, 14, 15, 16, 17, 18, 19, 20, 21], [0, 1, 2, 3, 4, 5, 6, 7, 8, 9, 10, 11, 12, 13, 14, 15, 16, 17, 18, 19, 20, 21, 22], [0, 1, 2, 3, 4, 5, 6, 7, 8, 9, 10, 11, 12, 13, 14, 15, 16, 17, 18, 19, 20, 21, 22, 23], [0, 1, 2, 3, 4, 5, 6, 7, 8, 9, 10, 11, 12, 13, 14, 15, 16, 17, 18, 19, 20, 21, 22, 23, 24], [0, 1, 2, 3, 4, 5, 6, 7, 8, 9, 10, 11, 12, 13, 14, 15, 16, 17, 18, 19, 20, 21, 22, 23, 24, 25], [0, 1, 2, 3, 4, 5, 6, 7, 8, 9, 10, 11, 12, 13, 14, 15, 16, 17, 18, 19, 20, 21, 22, 23, 24, 25, 26], [0, 1, 2, 3, 4, 5, 6, 7, 8, 9, 10, 11, 12, 13, 14, 15, 16, 17, 18, 19, 20, 21, 22, 23, 24, 25, 26, 27], [0, 1, 2, 3, 4, 5, 6, 7, 8, 9, 10, 11, 12, 13, 14, 15, 16, 17, 18, 19, 20, 21, 22, 23, 24, 25, 26, 27, 28], [0, 1, 2, 3, 4, 5, 6, 7, 8, 9, 10, 11, 12, 13, 14, 15, 16, 17, 18, 19, 20, 21, 22, 23, 24, 25, 26, 27, 28, 29], [0, 1, 2, 3, 4, 5, 6, 7, 8, 9, 10, 11, 12, 13, 14, 15, 16, 17, 18, 19, 20, 21, 22, 23, 24, 25, 26, 27, 28, 29, 30], [0, 1, 2, 3, 4, 5, 6, 7, 8, 9, 10, 11, 12, 13, 14, 15, 16, 17, 18, 19, 20, 21, 22, 23, 24, 25, 26, 27, 28, 29, 30, 31], [0, 1, 2, 3, 4, 5, 6, 7, 8, 9, 10, 11, 12, 13, 14, 15, 16, 17, 18, 19, 20, 21, 22, 23, 24, 25, 26, 27, 28, 29, 30, 31, 32], [0, 1, 2, 3, 4, 5, 6, 7, 8, 9, 10, 11, 12, 13, 14, 15, 16, 17, 18, 19, 20, 21, 22, 23, 24, 25, 26, 27, 28, 29, 30, 31, 32, 33], [0, 1, 2, 3, 4, 5, 6, 7, 8, 9, 10, 11, 12, 13, 14, 15, 16, 17, 18, 19, 20, 21, 22, 23, 24, 25, 26, 27, 28, 29, 30, 31, 32, 33, 34], [0, 1, 2, 3, 4, 5, 6, 7, 8, 9, 10, 11, 12, 13, 14, 15, 16, 17, 18, 19, 20, 21, 22, 23, 24, 25, 26, 27, 28, 29, 30, 31, 32, 33, 34, 35], [0, 1, 2, 3, 4, 5, 6, 7, 8, 9, 10, 11, 12, 13, 14, 15, 16, 17, 18, 19, 20, 21, 22, 23, 24, 25, 26, 27, 28, 29, 30, 31, 32, 33, 34, 35, 36], [0, 1, 2, 3, 4, 5, 6, 7, 8, 9, 10, 11, 12, 13, 14, 15, 16, 17, 18, 19, 20, 21, 22, 23, 24, 25, 26, 27, 28, 29, 30, 31, 32, 33, 34, 35, 36, 37], [0, 1, 2, 3, 4, 5, 6, 7, 8, 9, 10, 11, 12, 13, 14, 15, 16, 17, 18, 19, 20, 21, 22, 23, 24, 25, 26, 27, 28, 29, 30, 31, 32, 33, 34, 35, 36, 37, 38], [0, 1, 2, 3, 4, 5, 6, 7, 8, 9, 10, 11, 12, 13, 14, 15, 16, 17, 18, 19, 20, 21, 22, 23, 24, 25, 26, 27, 28, 29, 30, 31, 32, 33, 34, 35, 36, 37, 38, 39], [0, 1, 2, 3, 4, 5, 6, 7, 8, 9, 10, 11, 12, 13, 14, 15, 16, 17, 18, 19, 20, 21, 22, 23, 24, 25, 26, 27, 28, 29, 30, 31, 32, 33, 34, 35, 36, 37, 38, 39, 40], [0, 1, 2, 3, 4, 5, 6, 7, 8, 9, 10, 11, 12, 13, 14, 15, 16, 17, 18, 19, 20, 21, 22, 23, 24, 25, 26, 27, 28, 29, 30, 31, 32, 33, 34, 35, 36, 37, 38, 39, 40, 41], [0, 1, 2, 3, 4, 5, 6, 7, 8, 9, 10, 11, 12, 13, 14, 15, 16, 17, 18, 19, 20, 21, 22, 23, 24, 25, 26, 27, 28, 29, 30, 31, 32, 33, 34, 35, 36, 37, 38, 39, 40, 41, 42], [0, 1, 2, 3, 4, 5, 6, 7, 8, 9, 10, 11, 12, 13, 14, 15, 16, 17, 18, 19, 20, 21, 22, 23, 24, 25, 26, 27, 28, 29, 30, 31, 32, 33, 34, 35, 36, 37, 38, 39, 40, 41], [0, 1, 2, 3, 4, 5, 6, 7, 8, 9, 10, 11, 12, 13, 14, 15, 16, 17, 18, 19, 20, 21, 22, 23, 24, 25, 26, 27, 28, 29, 30, 31, 32, 33, 34, 35, 36, 37, 38, 39, 40, 41], [0, 1, 2, 3, 4, 5, 6, 7, 8, 9, 10, 11, 12, 13, 14, 15, 16, 17, 18, 19, 20, 21, 22, 23, 24, 25, 26, 27, 28, 29, 30, 31, 32, 33, 34, 35, 36, 37, 38, 39, 40, 41, 45], [0, 1, 2, 3, 4, 5, 6, 7, 8, 9, 10, 11, 12, 13, 14, 15, 16, 17, 18, 19, 20, 21, 22, 23, 24, 25, 26, 27, 28, 29, 30, 31, 32, 33, 34, 35, 36, 37, 38, 39, 40, 41, 44, 45, 46], [0, 1, 2, 3, 4, 5, 6, 7, 8, 9, 10, 11, 12, 13, 14, 15, 16, 17, 18, 19, 20, 21, 22, 23, 24, 25, 26, 27, 28, 29, 30, 31, 32, 33, 34, 35, 36, 37, 38, 39, 40, 41, 44, 45, 46, 47], [0, 1, 2, 3, 4, 5, 6, 7, 8, 9, 10, 11, 12, 13, 14, 15, 16, 17, 18, 19, 20, 21, 22, 23, 24, 25, 26, 27, 28, 29, 30, 31, 32, 33, 34, 35, 36, 37, 38, 39, 40, 41, 44, 45, 46, 47, 48], [0, 1, 2, 3, 4, 5, 6, 7, 8, 9, 10, 11, 12, 13, 14, 15, 16, 17, 18, 19, 20, 21, 22, 23, 24, 25, 26, 27, 28, 29, 30, 31, 32, 33, 34, 35, 36, 37, 38, 39, 40, 41, 42, 43, 44, 45, 46, 47, 48, 49], [0, 1, 2, 3, 4, 5, 6, 7, 8, 9, 10, 11, 12, 13, 14, 15, 16, 17, 18, 19, 20, 21, 22, 23, 24, 25, 26, 27, 28, 29, 30, 31, 32, 33, 34, 35, 36, 37, 38, 39, 40, 41, 42, 43, 44, 45, 46, 47, 48, 49, 50], [0, 1, 2, 3, 4, 5, 6, 7, 8, 9, 10, 11, 12, 13, 14, 15, 16, 17, 18, 19, 20, 21, 22, 23, 24, 25, 26, 27, 28, 29, 30, 31, 32, 33, 34, 35, 36, 37, 38, 39, 40, 41, 42, 43, 44, 45, 46, 47, 48, 49, 50, 51]] = some d28_5 := by kernel_rfl
def d28_10 : List DP := [⟨0, ⟨some 74, .fieldAddr 25 (.tmp 4) 2, 0, none, true⟩, .q, []⟩,
  ⟨1, ⟨some 75, .load 3 (.tmp 74), 3, none, true⟩, .h, []⟩,
  ⟨2, ⟨some 76, .binOp .eql 3 (.tmp 75) (.const (.int .i64 1)) 3, 4, none, true⟩, .q, []⟩,
  ⟨3, ⟨some 77, .move (.tmp 76), 4, none, true⟩, .q, []⟩,
  ⟨4, ⟨some 78, .move (.tmp 0), 23, some (some 77), true⟩, .q, []⟩,
  ⟨5, ⟨some 79, .move (.tmp 5), 3, some (some 77), true⟩, .q, []⟩,
  ⟨6, ⟨some 80, .indexAddr 23 (.tmp 78) (.tmp 79), 0, some (some 77), true⟩, .q, []⟩,
  ⟨7, ⟨some 81, .fieldAddr 25 (.tmp 80) 2, 0, some (some 77), true⟩, .q, []⟩,
  ⟨8, ⟨some 82, .load 3 (.tmp 81), 3, some (some 77), true⟩, .h, []⟩,
  ⟨9, ⟨some 83, .binOp .eql 3 (.tmp 82) (.const (.int .i64 1)) 3, 4, some (some 77), true⟩, .q, []⟩,
  ⟨10, ⟨some 84, .pick (.tmp 77) (.tmp 83) (.const (.bool false)), 4, none, true⟩, .q, []⟩,
  ⟨11, ⟨some 85, .move (.tmp 84), 4, none, true⟩, .q, []⟩,
  ⟨12, ⟨some 86, .move (.tmp 0), 23, some (some 85), true⟩, .q, []⟩,
  ⟨13, ⟨some 87, .move (.tmp 5), 3, some (some 85), true⟩, .q, []⟩,
  ⟨14, ⟨some 88, .indexAddr 23 (.tmp 86) (.tmp 87), 0, some (some 85), true⟩, .q, []⟩,
  ⟨15, ⟨some 89, .fieldAddr 25 (.tmp 88) 1, 0, some (some 85), true⟩, .q, []⟩,
  ⟨16, ⟨some 90, .load 3 (.tmp 89), 3, some (some 85), true⟩, .h, []⟩,
  ⟨17, ⟨some 91, .fieldAddr 25 (.tmp 4) 1, 0, some (some 85), true⟩, .q, []⟩,
  ⟨18, ⟨some 92, .load 3 (.tmp 91), 3, some (some 85), true⟩, .h, []⟩,
  ⟨19, ⟨some 93, .binOp .eql 3 (.tmp 90) (.tmp 92) 3, 4, some (some 85), true⟩, .q, []⟩,
  ⟨20, ⟨some 94, .pick (.tmp 85) (.tmp 93) (.const (.bool false)), 4, none, true⟩, .q, []⟩]
theorem dc28_10 : drawC ap (drawOf T.c28 10).toList [0, 1, 2, 3, 4, 5, 6, 7, 8, 9, 10, 11, 12, 13, 14, 15, 16, 17, 18, 19, 20] [[], [0], [0, 1], [0, 1, 2], [0, 1, 2, 3], [0, 1, 2, 3], [0, 1, 2, 3, 4, 5], [0, 1, 2, 3, 4, 5, 6], [0, 1, 2, 3, 4, 5, 6, 7], [0, 1, 2, 3, 4, 5, 6, 7, 8], [0, 1, 2, 3, 4, 5, 6, 7, 8, 9], [0, 1, 2, 3, 4, 5, 6, 7, 8, 9, 10], [0, 1, 2, 3, 4, 5, 6, 7, 8, 9, 10, 11], [0, 1, 2, 3, 4, 5, 6, 7, 8, 9, 10, 11], [0, 1, 2, 3, 4, 5, 6, 7, 8, 9, 10, 11, 12, 13], [0, 1, 2, 3, 4, 5, 6, 7, 8, 9, 10, 11, 12, 13, 14], [0, 1, 2, 3, 4, 5, 6, 7, 8, 9, 10, 11, 12, 13, 14, 15], [0, 1, 2, 3, 4, 5, 6, 7, 8, 9, 10, 11], [0, 1, 2, 3, 4, 5, 6, 7, 8, 9, 10, 11, 17], [0, 1, 2, 3, 4, 5, 6, 7, 8, 9, 10, 11, 12, 13, 14, 15, 16, 17, 18], [0, 1, 2, 3, 4, 5, 6, 7, 8, 9, 10, 11, 12, 13, 14, 15, 16, 17, 18, 19]] = some d28_10 := by kernel_rfl
def d34_11 : List DP := [⟨0, ⟨some 46, .move (.tmp 9), 22, none, true⟩, .q, []⟩,
  ⟨1, ⟨some 47, .move (.tmp 1), 3, none, true⟩, .q, []⟩,
  ⟨2, ⟨some 48, .move (.tmp 7), 3, none, true⟩, .q, []⟩,
  ⟨3, ⟨some 49, .binOp .add 3 (.tmp 47) (.tmp 48) 3, 3, none, true⟩, .q, []⟩,
  ⟨4, ⟨some 50, .slice 22 (.tmp 46) (some (.tmp 49)) none none, 22, none, true⟩, .h, []⟩,
  ⟨5, ⟨some 51, .move (.tmp 0), 22, none, true⟩, .q, []⟩,
  ⟨6, ⟨some 52, .move (.tmp 1), 3, none, true⟩, .q, []⟩,
  ⟨7, ⟨some 53, .slice 22 (.tmp 51) (some (.tmp 52)) none none, 22, none, true⟩, .h, []⟩,
  ⟨8, ⟨some 54, .call (⟨.builtin .copy, #[.tmp 50, .tmp 53], #[22, 22]⟩), 3, none, true⟩, .e, []⟩]
theorem dc34_11 : drawC ap (drawOf T.c34 11).toList [0, 1, 2, 3, 4, 5, 6, 7, 8] [[], [], [], [1, 2], [0, 1, 2, 3], [], [], [5, 6], [0, 1, 2, 3, 4, 5, 6, 7]] = some d34_11 := by kernel_rfl
def d34_15 : List DP := [⟨0, ⟨some 69, .move (.tmp 0), 22, none, true⟩, .q, []⟩,
  ⟨1, ⟨some 70, .move (.tmp 1), 3, none, true⟩, .q, []⟩,
  ⟨2, ⟨some 71, .move (.tmp 7), 3, none, true⟩, .q, []⟩,
  ⟨3, ⟨some 72, .binOp .add 3 (.tmp 70) (.tmp 71) 3, 3, none, true⟩, .q, []⟩,
  ⟨4, ⟨some 73, .slice 22 (.tmp 69) (some (.tmp 72)) none none, 22, none, true⟩, .h, []⟩,
  ⟨5, ⟨some 74, .move (.tmp 0), 22, none, true⟩, .q, []⟩,
  ⟨6, ⟨some 75, .move (.tmp 1), 3, none, true⟩, .q, []⟩,
  ⟨7, ⟨some 76, .slice 22 (.tmp 74) (some (.tmp 75)) none none, 22, none, true⟩, .h, []⟩,
  ⟨8, ⟨some 77, .call (⟨.builtin .copy, #[.tmp 73, .tmp 76], #[22, 22]⟩), 3, none, true⟩, .e, []⟩]
theorem dc34_15 : drawC ap (drawOf T.c34 15).toList [0, 1, 2, 3, 4, 5, 6, 7, 8] [[], [], [], [1, 2], [0, 1, 2, 3], [], [], [5, 6], [0, 1, 2, 3, 4, 5, 6, 7]] = some d34_15 := by kernel_rfl
def d36_11 : List DP := [⟨0, ⟨some 46, .move (.tmp 9), 23, none, true⟩, .q, []⟩,
  ⟨1, ⟨some 47, .move (.tmp 1), 3, none, true⟩, .q, []⟩,
  ⟨2, ⟨some 48, .move (.tmp 7), 3, none, true⟩, .q, []⟩,
  ⟨3, ⟨some 49, .binOp .add 3 (.tmp 47) (.tmp 48) 3, 3, none, true⟩, .q, []⟩,
  ⟨4, ⟨some 50, .slice 23 (.tmp 46) (some (.tmp 49)) none none, 23, none, true⟩, .h, []⟩,
  ⟨5, ⟨some 51, .move (.tmp 0), 23, none, true⟩, .q, []⟩,
  ⟨6, ⟨some 52, .move (.tmp 1), 3, none, true⟩, .q, []⟩,
  ⟨7, ⟨some 53, .slice 23 (.tmp 51) (some (.tmp 52)) none none, 23, none, true⟩, .h, []⟩,
  ⟨8, ⟨some 54, .call (⟨.builtin .copy, #[.tmp 50, .tmp 53], #[23, 23]⟩), 3, none, true⟩, .e, []⟩]
theorem dc36_11 : drawC ap (drawOf T.c36 11).toList [0, 1, 2, 3, 4, 5, 6, 7, 8] [[], [], [], [1, 2], [0, 1, 2, 3], [], [], [5, 6], [0, 1, 2, 3, 4, 5, 6, 7]] = some d36_11 := by kernel_rfl
def d36_15 : List DP := [⟨0, ⟨some 69, .move (.tmp 0), 23, none, true⟩, .q, []⟩,
  ⟨1, ⟨some 70, .move (.tmp 1), 3, none, true⟩, .q, []⟩,
  ⟨2, ⟨some 71, .move (.tmp 7), 3, none, true⟩, .q, []⟩,
  ⟨3, ⟨some 72, .binOp .add 3 (.tmp 70) (.tmp 71) 3, 3, none, true⟩, .q, []⟩,
  ⟨4, ⟨some 73, .slice 23 (.tmp 69) (some (.tmp 72)) none none, 23, none, true⟩, .h, []⟩,
  ⟨5, ⟨some 74, .move (.tmp 0), 23, none, true⟩, .q, []⟩,
  ⟨6, ⟨some 75, .move (.tmp 1), 3, none, true⟩, .q, []⟩,
  ⟨7, ⟨some 76, .slice 23 (.tmp 74) (some (.tmp 75)) none none, 23, none, true⟩, .h, []⟩,
  ⟨8, ⟨some 77, .call (⟨.builtin .copy, #[.tmp 73, .tmp 76], #[23, 23]⟩), 3, none, true⟩, .e, []⟩]
theorem dc36_15 : drawC ap (drawOf T.c36 15).toList [0, 1, 2, 3, 4, 5, 6, 7, 8] [[], [], [], [1, 2], [0, 1, 2, 3], [], [], [5, 6], [0, 1, 2, 3, 4, 5, 6, 7]] = some d36_15 := by kernel_rfl
def d38_5 : List DP := [⟨0, ⟨some 14, .move (.tmp 5), 23, none, true⟩, .q, []⟩,
  ⟨1, ⟨some 15, .move (.tmp 6), 3, none, true⟩, .q, []⟩,
  ⟨2, ⟨some 16, .indexAddr 23 (.tmp 14) (.tmp 15), 0, none, true⟩, .q, []⟩,
  ⟨3, ⟨some 17, .fieldAddr 25 (.tmp 16) 0, 0, none, true⟩, .q, []⟩,
  ⟨4, ⟨some 18, .load 3 (.tmp 17), 3, none, true⟩, .h, []⟩,
  ⟨5, ⟨some 19, .fieldAddr 25 (.tmp 3) 0, 0, none, true⟩, .q, []⟩,
  ⟨6, ⟨some 20, .load 3 (.tmp 19), 3, none, true⟩, .h, []⟩,
  ⟨7, ⟨some 21, .binOp .eql 3 (.tmp 18) (.tmp 20) 3, 4, none, true⟩, .q, []⟩]
theorem dc38_5 : drawC ap (drawOf T.c38 5).toList [0, 1, 2, 3, 4, 5, 6, 7] [[], [], [0, 1], [0, 1, 2], [0, 1, 2, 3], [], [5], [0, 1, 2, 3, 4, 5, 6]] = some d38_5 := by kernel_rfl
def d48_3 : List DP := [⟨0, ⟨some 14, .move (.tmp 0), 22, none, true⟩, .q, []⟩,
  ⟨1, ⟨some 15, .move (.tmp 2), 3, none, true⟩, .q, []⟩,
  ⟨2, ⟨some 16, .move (.tmp 0), 22, none, true⟩, .q, []⟩,
  ⟨3, ⟨some 17, .move (.tmp 3), 3, none, true⟩, .q, []⟩,
  ⟨4, ⟨some 18, .move (.tmp 0), 22, none, true⟩, .q, []⟩,
  ⟨5, ⟨some 19, .move (.tmp 3), 3, none, true⟩, .q, []⟩,
  ⟨6, ⟨some 20, .indexAddr 22 (.tmp 18) (.tmp 19), 0, none, true⟩, .q, []⟩,
  ⟨7, ⟨some 21, .load 39 (.tmp 20), 39, none, true⟩, .h, []⟩,
  ⟨8, ⟨some 22, .move (.tmp 0), 22, none, true⟩, .q, []⟩,
  ⟨9, ⟨some 23, .move (.tmp 2), 3, none, true⟩, .q, []⟩,
  ⟨10, ⟨some 24, .indexAddr 22 (.tmp 22) (.tmp 23), 0, none, true⟩, .q, []⟩,
  ⟨11, ⟨some 25, .load 39 (.tmp 24), 39, none, true⟩, .h, []⟩,
  ⟨12, ⟨some 26, .indexAddr 22 (.tmp 14) (.tmp 15), 0, none, true⟩, .q, []⟩,
  ⟨13, ⟨none, .store 39 (.tmp 26) (.tmp 21), 0, none, true⟩, .e, []⟩,
  ⟨14, ⟨some 27, .indexAddr 22 (.tmp 16) (.tmp 17), 0, none, true⟩, .q, []⟩,
  ⟨15, ⟨none, .store 39 (.tmp 27) (.tmp 25), 0, none, true⟩, .e, []⟩]
theorem dc48_3 : drawC ap (drawOf T.c48 3).toList [0, 1, 2, 3, 4, 5, 6, 7, 8, 9, 10, 11, 12, 13, 14, 15] [[], [], [], [], [], [], [4, 5], [4, 5, 6], [], [], [8, 9], [8, 9, 10], [0, 1, 4, 5, 6, 7, 8, 9, 10, 11], [0, 1, 4, 5, 6, 7, 8, 9, 10, 11, 12], [0, 1, 2, 3, 4, 5, 6, 7, 8, 9, 10, 11, 12, 13], [0, 1, 2, 3, 4, 5, 6, 7, 8, 9, 10, 11, 12, 13, 14]] = some d48_3 := by kernel_rfl
def d49_3 : List DP := [⟨0, ⟨some 14, .move (.tmp 0), 23, none, true⟩, .q, []⟩,
  ⟨1, ⟨some 15, .move (.tmp 2), 3, none, true⟩, .q, []⟩,
  ⟨2, ⟨some 16, .move (.tmp 0), 23, none, true⟩, .q, []⟩,
  ⟨3, ⟨some 17, .move (.tmp 3), 3, none, true⟩, .q, []⟩,
  ⟨4, ⟨some 18, .move (.tmp 0), 23, none, true⟩, .q, []⟩,
  ⟨5, ⟨some 19, .move (.tmp 3), 3, none, true⟩, .q, []⟩,
  ⟨6, ⟨some 20, .indexAddr 23 (.tmp 18) (.tmp 19), 0, none, true⟩, .q, []⟩,
  ⟨7, ⟨some 21, .load 25 (.tmp 20), 25, none, true⟩, .h, []⟩,
  ⟨8, ⟨some 22, .move (.tmp 0), 23, none, true⟩, .q, []⟩,
  ⟨9, ⟨some 23, .move (.tmp 2), 3, none, true⟩, .q, []⟩,
  ⟨10, ⟨some 24, .indexAddr 23 (.tmp 22) (.tmp 23), 0, none, true⟩, .q, []⟩,
  ⟨11, ⟨some 25, .load 25 (.tmp 24), 25, none, true⟩, .h, []⟩,
  ⟨12, ⟨some 26, .indexAddr 23 (.tmp 14) (.tmp 15), 0, none, true⟩, .q, []⟩,
  ⟨13, ⟨none, .store 25 (.tmp 26) (.tmp 21), 0, none, true⟩, .e, []⟩,
  ⟨14, ⟨some 27, .indexAddr 23 (.tmp 16) (.tmp 17), 0, none, true⟩, .q, []⟩,
  ⟨15, ⟨none, .store 25 (.tmp 27) (.tmp 25), 0, none, true⟩, .e, []⟩]
theorem dc49_3 : drawC ap (drawOf T.c49 3).toList [0, 1, 2, 3, 4, 5, 6, 7, 8, 9, 10, 11, 12, 13, 14, 15] [[], [], [], [], [], [], [4, 5], [4, 5, 6], [], [], [8, 9], [8, 9, 10], [0, 1, 4, 5, 6, 7, 8, 9, 10, 11], [0, 1, 4, 5, 6, 7, 8, 9, 10, 11, 12], [0, 1, 2, 3, 4, 5, 6, 7, 8, 9, 10, 11, 12, 13], [0, 1, 2, 3, 4, 5, 6, 7, 8, 9, 10, 11, 12, 13, 14]] = some d49_3 := by kernel_rfl
end Go.Proofs.Ytobfodegdbfhdaa.T
end
section
/-! Plain laws of numbers: the zigzag, the bytes of a number, and how they are read. Nothing of the program. -/
set_option linter.unusedVariables false
set_option linter.unusedSimpArgs false
namespace Go.Ab
theorem iand_bits {k : IntKind} {x y : Int} : iand k x y = Go.bits .and k x y := rfl
theorem ior_bits {k : IntKind} {x y : Int} : ior k x y = Go.bits .or k x y := rfl
theorem ixor_bits {k : IntKind} {x y : Int} : ixor k x y = Go.bits .xor k x y := rfl
theorem wu64 (n : Int) : IntKind.u64.wrap n = n % 18446744073709551616 := by simp [IntKind.wrap, IntKind.bits, IntKind.signed]
theorem wraps_u64 (n : Int) (h₀ : 0 ≤ n) (h₁ : n < 2 ^ 64) : IntKind.u64.wrap n = n := by rw [wu64]; omega
theorem or128 (x : Int) : ior .u8 (IntKind.u8.wrap x) 128 = x % 128 + 128 := by
  have key : ∀ a : Fin 256, ior .u8 (a.val : Int) 128 = (a.val : Int) % 128 + 128 := by decide +kernel
  have h := key ⟨(x % 256).toNat, by omega⟩
  have e : (((x % 256).toNat : Nat) : Int) = x % 256 := by omega
  simp only [e] at h
  rw [wrap_u8, h]
  omega
theorem and127_u8 (x : Int) (h0 : 0 ≤ x) (h1 : x < 256) : iand .u8 x 127 = x % 128 := by
  have key : ∀ a : Fin 256, iand .u8 (a.val : Int) 127 = (a.val : Int) % 128 := by decide +kernel
  have h := key ⟨x.toNat, by omega⟩
  have e : ((x.toNat : Nat) : Int) = x := by omega
  simp only [e] at h
  exact h
theorem and127_u64 (x : Int) (h0 : 0 ≤ x) (h1 : x < 18446744073709551616) : iand .u64 x 127 = x % 128 := by
  have := bits_mask .u64 64 (by decide) wraps_u64 7 (by decide) x h0 (by omega)
  simpa [iand_bits] using this
theorem and1_u64 (x : Int) (h0 : 0 ≤ x) (h1 : x < 18446744073709551616) : iand .u64 x 1 = x % 2 := by
  have := bits_mask .u64 64 (by decide) wraps_u64 1 (by decide) x h0 (by omega)
  simpa [iand_bits] using this
theorem or1_u64 (x : Int) (h0 : 0 ≤ x) (h1 : x < 18446744073709551616) (h2 : x % 2 = 0) : ior .u64 x 1 = x + 1 := by
  have := bits_join .u64 64 (by decide) wraps_u64 1 x 1 h0 (by omega) (by omega) (by decide) (by decide) (by decide)
  simpa [ior_bits] using this
theorem xor_all (a : Nat) (ha : a < 2 ^ 64) : a ^^^ 18446744073709551615 = 18446744073709551615 - a := by
  have h : (BitVec.ofNat 64 a ^^^ BitVec.allOnes 64) = ~~~ BitVec.ofNat 64 a := BitVec.xor_allOnes
  have h2 := congrArg BitVec.toNat h
  rw [BitVec.toNat_xor, BitVec.toNat_not, BitVec.toNat_allOnes, BitVec.toNat_ofNat, Nat.mod_eq_of_lt ha] at h2
  exact h2
theorem xor0_u64 (x : Int) (h0 : 0 ≤ x) (h1 : x < 18446744073709551616) : ixor .u64 x 0 = x := by
  obtain ⟨a, rfl⟩ := Int.eq_ofNat_of_zero_le h0
  have h := Go.bits_xor_u64_nat a 0 (by omega) (by decide)
  simpa [ixor_bits] using h
theorem xorm_u64 (x : Int) (h0 : 0 ≤ x) (h1 : x < 18446744073709551616) : ixor .u64 x 18446744073709551615 = 18446744073709551615 - x := by
  obtain ⟨a, rfl⟩ := Int.eq_ofNat_of_zero_le h0
  have ha : a < 2 ^ 64 := by omega
  have h := Go.bits_xor_u64_nat a 18446744073709551615 (by omega) (by decide)
  rw [show ((18446744073709551615 : Nat) : Int) = 18446744073709551615 from rfl] at h
  rw [ixor_bits, h, xor_all a ha]
  omega
theorem xor_i64_nat (a b : Nat) (ha : a < 2 ^ 64) (hb : b < 2 ^ 64) (x y : Int) (hx : BitVec.ofInt 64 x = BitVec.ofNat 64 a) (hy : BitVec.ofInt 64 y = BitVec.ofNat 64 b) : ixor .i64 x y = IntKind.i64.wrap ((a ^^^ b : Nat) : Int) := by
  show IntKind.i64.wrap ((BitVec.ofInt 64 x ^^^ BitVec.ofInt 64 y).toNat : Int) = _
  rw [hx, hy, BitVec.toNat_xor, BitVec.toNat_ofNat, BitVec.toNat_ofNat, Nat.mod_eq_of_lt ha, Nat.mod_eq_of_lt hb]
theorem xor0_i64 (x : Int) (h0 : 0 ≤ x) (h1 : x < 9223372036854775808) : ixor .i64 x 0 = x := by
  obtain ⟨a, rfl⟩ := Int.eq_ofNat_of_zero_le h0
  rw [xor_i64_nat a 0 (by omega) (by decide) a 0 (BitVec.ofInt_natCast ..) (by decide), Nat.xor_zero, wrap_i64 (by omega) (by omega)]
theorem xorm_i64 (x : Int) (h0 : 0 ≤ x) (h1 : x < 9223372036854775808) : ixor .i64 x (-1) = -x - 1 := by
  obtain ⟨a, rfl⟩ := Int.eq_ofNat_of_zero_le h0
  rw [xor_i64_nat a 18446744073709551615 (by omega) (by decide) a (-1) (BitVec.ofInt_natCast ..) (by decide), xor_all a (by omega), IntKind.wrap_i64]
  omega
/-- Disjoint bits. -/
theorem or_high (x y p : Int) (i : Nat) (hi : i ≤ 64) (hp : p = 2 ^ i) (hx0 : 0 ≤ x) (hx : x < p) (hy0 : 0 ≤ y) (hy : y < 18446744073709551616) (hm : y % p = 0) : ior .u64 x y = x + y := by
  subst hp
  have hle : (2 : Int) ^ i ≤ 18446744073709551616 := by
    have h1 : 2 ^ i ≤ 2 ^ 64 := Nat.pow_le_pow_right (by decide) hi
    have h2 : ((2 ^ i : Nat) : Int) ≤ ((2 ^ 64 : Nat) : Int) := Int.ofNat_le.2 h1
    rw [Int.natCast_pow] at h2
    exact h2
  have h := bits_join .u64 64 (by decide) wraps_u64 i y x hy0 hm (by omega) hx0 hx (by omega)
  have hc : ior .u64 x y = Go.bits .or .u64 y x := by
    unfold ior Go.bits
    simp only [BitVec.or_comm]
  rw [hc, h]
  omega

/-- The zigzag. -/
def zig (n : Int) : Int := if 0 ≤ n then 2 * n else -(2 * n) - 1
def unz (u : Int) : Int := if u % 2 = 0 then u / 2 else -(u / 2) - 1
theorem zig_nonneg (n : Int) : 0 ≤ zig n := by unfold zig; split <;> omega
theorem zig_lt (n : Int) (h0 : -9223372036854775808 ≤ n) (h1 : n ≤ 9223372036854775807) : zig n < 18446744073709551616 := by unfold zig; split <;> omega
theorem unz_zig (n : Int) : unz (zig n) = n := by unfold zig unz; split <;> split <;> omega
theorem zig_unz (u : Int) (h : 0 ≤ u) : zig (unz u) = u := by unfold zig unz; split <;> split <;> omega
theorem unz_range (u : Int) (h0 : 0 ≤ u) (h1 : u < 18446744073709551616) : -9223372036854775808 ≤ unz u ∧ unz u ≤ 9223372036854775807 := by unfold unz; split <;> omega
theorem shl1 (x : Int) : ishl .u64 x 1 = (x * 2) % 18446744073709551616 := by
  unfold ishl
  rw [wu64]
  rfl
theorem shr1 (x : Int) : ishr .u64 x 1 = x / 2 := by
  show x.fdiv 2 = x / 2
  rw [Int.fdiv_eq_ediv_of_nonneg _ (by decide)]
theorem shr7 (x : Int) : ishr .u64 x 7 = x / 128 := by
  show x.fdiv 128 = x / 128
  rw [Int.fdiv_eq_ediv_of_nonneg _ (by decide)]
theorem shr63 (x : Int) : ishr .i64 x 63 = x / 9223372036854775808 := by
  show x.fdiv 9223372036854775808 = x / 9223372036854775808
  rw [Int.fdiv_eq_ediv_of_nonneg _ (by decide)]
/-- As the program makes it. -/
theorem zig_go (n : Int) (h0 : -9223372036854775808 ≤ n) (h1 : n ≤ 9223372036854775807) :
    ixor .u64 (ishl .u64 (IntKind.u64.wrap n) 1) (IntKind.u64.wrap (ishr .i64 n 63)) = zig n := by
  rw [shl1, shr63]
  simp only [wu64]
  by_cases h : 0 ≤ n
  · have e1 : n / 9223372036854775808 % 18446744073709551616 = 0 := by omega
    rw [e1, xor0_u64 _ (by omega) (by omega)]
    unfold zig; rw [if_pos h]; omega
  · have e1 : n / 9223372036854775808 % 18446744073709551616 = 18446744073709551615 := by omega
    rw [e1, xorm_u64 _ (by omega) (by omega)]
    unfold zig; rw [if_neg h]; omega
/-- As the reference makes it. -/
theorem zig_ref_neg (n : Int) (h0 : -9223372036854775808 ≤ n) (h1 : n < 0) :
    ior .u64 (ishl .u64 (IntKind.u64.wrap (IntKind.i64.wrap (-(IntKind.i64.wrap (n + 1))))) 1) 1 = zig n := by
  rw [wrap_i64 (x := n + 1) (by omega) (by omega), wrap_i64 (by omega) (by omega), shl1]
  simp only [wu64]
  have e2 : -(n + 1) % 18446744073709551616 * 2 % 18446744073709551616 = 2 * (-(n + 1)) := by omega
  rw [e2, or1_u64 _ (by omega) (by omega) (by omega)]
  unfold zig; rw [if_neg (by omega)]; omega
theorem zig_ref_pos (n : Int) (h0 : 0 ≤ n) (h1 : n ≤ 9223372036854775807) : ishl .u64 (IntKind.u64.wrap n) 1 = zig n := by
  rw [shl1]
  simp only [wu64]
  unfold zig; rw [if_pos h0]; omega
/-- As the program takes it back. -/
theorem unz_go (v : Int) (h0 : 0 ≤ v) (h1 : v < 18446744073709551616) : ixor .i64 (IntKind.i64.wrap (ishr .u64 v 1)) (IntKind.i64.wrap (-(IntKind.i64.wrap (iand .u64 v 1)))) = unz v := by
  rw [and1_u64 v h0 h1, shr1]
  have e1 : IntKind.i64.wrap (v / 2) = v / 2 := wrap_i64 (by omega) (by omega)
  rw [e1]
  unfold unz
  by_cases h : v % 2 = 0
  · have e2 : IntKind.i64.wrap (-(IntKind.i64.wrap (v % 2))) = 0 := by rw [h]; decide
    rw [if_pos h, e2, xor0_i64 _ (by omega) (by omega)]
  · have e3 : v % 2 = 1 := by omega
    have e2 : IntKind.i64.wrap (-(IntKind.i64.wrap (v % 2))) = -1 := by rw [e3]; decide
    rw [if_neg h, e2, xorm_i64 _ (by omega) (by omega)]
theorem unz_ref_odd (v : Int) (h0 : 0 ≤ v) (h1 : v < 18446744073709551616) (h : iand .u64 v 1 = 1) : IntKind.i64.wrap (IntKind.i64.wrap (-(IntKind.i64.wrap (ishr .u64 v 1))) - 1) = unz v := by
  rw [and1_u64 v h0 h1] at h
  rw [shr1, wrap_i64 (x := v / 2) (by omega) (by omega), wrap_i64 (x := -(v / 2)) (by omega) (by omega), wrap_i64 (by omega) (by omega)]
  unfold unz; rw [if_neg (by omega)]
theorem unz_ref_even (v : Int) (h0 : 0 ≤ v) (h1 : v < 18446744073709551616) (h : ¬ iand .u64 v 1 = 1) : IntKind.i64.wrap (ishr .u64 v 1) = unz v := by
  rw [and1_u64 v h0 h1] at h
  rw [shr1, wrap_i64 (x := v / 2) (by omega) (by omega)]
  unfold unz; rw [if_pos (by omega)]

/-- A number's bytes, at most f + 1 of them. -/
def vb : Nat → Int → List Int
  | 0, u => [u]
  | f + 1, u => if u > 127 then (u % 128 + 128) :: vb f (u / 128) else [u]
theorem vb_pos (f : Nat) (u : Int) : 0 < (vb f u).length := by
  cases f <;> simp only [vb]
  · simp
  · split <;> simp
theorem vb_le (f : Nat) : ∀ u, (vb f u).length ≤ f + 1 := by
  induction f with
  | zero => intro u; simp [vb]
  | succ f ih =>
    intro u
    simp only [vb]
    split
    · have := ih (u / 128); simp; omega
    · simp
/-- 128 to the f + 1. -/
def pw : Nat → Int
  | 0 => 128
  | f + 1 => pw f * 128
theorem pw_succ (f : Nat) : pw (f + 1) = pw f * 128 := rfl
theorem pw_nine : pw 9 = 1180591620717411303424 := rfl
theorem vb_byte (f : Nat) : ∀ u, 0 ≤ u → u < pw f → Byt (vb f u) := by
  induction f with
  | zero =>
    intro u h0 h1 x hx
    simp [vb] at hx
    subst hx
    simp only [pw] at h1
    omega
  | succ f ih =>
    intro u h0 h1 x hx
    rw [pw_succ] at h1
    simp only [vb] at hx
    split at hx
    · rcases List.mem_cons.1 hx with rfl | hx
      · omega
      · exact ih (u / 128) (by omega) (by omega) x hx
    · simp at hx; subst hx; omega
/-- What an int64 can hold. -/
def I64 (n : Int) : Prop := -9223372036854775808 ≤ n ∧ n ≤ 9223372036854775807
/-- A number's bytes. -/
def enc (n : Int) : List Int := vb 9 (zig n)
theorem enc_len (n : Int) : 0 < (enc n).length ∧ (enc n).length ≤ 10 := ⟨vb_pos _ _, vb_le _ _⟩
theorem enc_byt {n : Int} (h : I64 n) : Byt (enc n) := vb_byte 9 (zig n) (zig_nonneg n) (by have := zig_lt n h.1 h.2; rw [pw_nine]; omega)
/-- 2 to the 7 i. -/
def pp : Nat → Int
  | 0 => 1
  | i + 1 => pp i * 128
theorem pp_eq (i : Nat) : pp i = 2 ^ (7 * i) := by
  induction i with
  | zero => rfl
  | succ i ih =>
    show pp i * 128 = _
    rw [ih, show 7 * (i + 1) = 7 * i + 7 by omega, Int.pow_add]
    rfl
theorem pp_pos (i : Nat) : 0 < pp i := by rw [pp_eq]; exact Int.pow_pos (by decide)
theorem split7 (u p : Int) : u % 128 * p + u / 128 * (p * 128) = u * p := by
  have h3 : u % 128 + 128 * (u / 128) = u := Int.emod_add_mul_ediv ..
  have h4 : u % 128 * p + u / 128 * (p * 128) = (u % 128 + 128 * (u / 128)) * p := by
    rw [Int.add_mul]
    congr 1
    rw [Int.mul_comm 128 (u / 128), Int.mul_assoc, Int.mul_comm 128 p]
  rw [h4, h3]
/-- Seven bits more. -/
def more (i : Nat) (x c : Int) : Int := x + (c % 128 * pp i) % 18446744073709551616
theorem pp_dvd {i : Nat} (hi : i ≤ 9) : ∃ q : Int, 18446744073709551616 = pp i * q := by
  refine ⟨2 ^ (64 - 7 * i), ?_⟩
  rw [pp_eq, ← Int.pow_add, show 7 * i + (64 - 7 * i) = 64 by omega]
  rfl
theorem pp_le {i : Nat} (hi : i ≤ 9) : pp i ≤ 9223372036854775808 := by
  rw [pp_eq]
  have h1 : 2 ^ (7 * i) ≤ 2 ^ 63 := Nat.pow_le_pow_right (by decide) (by omega)
  have h2 : ((2 ^ (7 * i) : Nat) : Int) ≤ ((2 ^ 63 : Nat) : Int) := Int.ofNat_le.2 h1
  rw [Int.natCast_pow] at h2
  exact h2
theorem more_hi {i : Nat} (hi : i ≤ 9) {x c : Int} (hx0 : 0 ≤ x) (hx : x < pp i) : 0 ≤ more i x c ∧ more i x c < 18446744073709551616 := by
  have hp := pp_pos i
  have hm : ((c % 128 * pp i) % 18446744073709551616) % pp i = 0 := by
    rw [Int.emod_emod_of_dvd _ (pp_dvd hi), Int.mul_emod_left]
  have h0 : 0 ≤ (c % 128 * pp i) % 18446744073709551616 := Int.emod_nonneg _ (by decide)
  have h1 : (c % 128 * pp i) % 18446744073709551616 < 18446744073709551616 := Int.emod_lt_of_pos _ (by decide)
  unfold more
  refine ⟨by omega, ?_⟩
  generalize (c % 128 * pp i) % 18446744073709551616 = y at hm h0 h1
  obtain ⟨q, e⟩ := pp_dvd hi
  have d1 : pp i ∣ 18446744073709551616 - y := Int.dvd_sub ⟨q, e⟩ (Int.dvd_of_emod_eq_zero hm)
  have := Int.le_of_dvd (by omega) d1
  omega
theorem more_small {i : Nat} (hi : i ≤ 8) (x : Int) {c : Int} : more i x c = x + c % 128 * pp i := by
  have hp := pp_pos i
  have h1 : pp i ≤ 72057594037927936 := by
    rw [pp_eq]
    have h1 : 2 ^ (7 * i) ≤ 2 ^ 56 := Nat.pow_le_pow_right (by decide) (by omega)
    have h2 : ((2 ^ (7 * i) : Nat) : Int) ≤ ((2 ^ 56 : Nat) : Int) := Int.ofNat_le.2 h1
    rw [Int.natCast_pow] at h2
    exact h2
  have h5 : c % 128 * pp i ≤ 127 * pp i := Int.mul_le_mul_of_nonneg_right (by omega) (by omega)
  have hge : 0 ≤ c % 128 * pp i := Int.mul_nonneg (by omega) (by omega)
  unfold more
  rw [Int.emod_eq_of_lt hge (by omega)]
theorem more_lt {i : Nat} (hi : i ≤ 8) {x c : Int} (hx0 : 0 ≤ x) (hx : x < pp i) : 0 ≤ more i x c ∧ more i x c < pp (i + 1) := by
  have hp := pp_pos i
  have h5 : c % 128 * pp i ≤ 127 * pp i := Int.mul_le_mul_of_nonneg_right (by omega) (by omega)
  have hge : 0 ≤ c % 128 * pp i := Int.mul_nonneg (by omega) (by omega)
  have hp1 : pp (i + 1) = pp i * 128 := rfl
  rw [more_small hi, hp1]
  omega
/-- As both make it. -/
theorem or_step {i : Nat} (hi : i ≤ 9) {x c : Int} (hx0 : 0 ≤ x) (hx : x < pp i) (hc0 : 0 ≤ c) (hc : c < 256) {z : Int} (hz : z = 7 * (i : Int)) :
    ior .u64 x (ishl .u64 (IntKind.u64.wrap (iand .u8 c 127)) z) = more i x c := by
  subst hz
  have hs : ishl .u64 (IntKind.u64.wrap (iand .u8 c 127)) (7 * (i : Int)) = (c % 128 * pp i) % 18446744073709551616 := by
    rw [and127_u8 c hc0 hc, wu64, Int.emod_eq_of_lt (a := c % 128) (by omega) (by omega)]
    unfold ishl
    have e2 : min (7 * (i : Int)).toNat IntKind.u64.bits = 7 * i := by
      simp [IntKind.bits]; omega
    rw [e2, wu64, pp_eq]
  rw [hs]
  have hm : ((c % 128 * pp i) % 18446744073709551616) % pp i = 0 := by
    rw [Int.emod_emod_of_dvd _ (pp_dvd hi), Int.mul_emod_left]
  exact or_high x _ (pp i) (7 * i) (by omega) (pp_eq i) hx0 hx (Int.emod_nonneg _ (by decide)) (Int.emod_lt_of_pos _ (by decide)) hm
/-- A number is read, from byte i on; x is what there is yet. st: each number in just one way. -/
def rdn (st : Bool) : List Int → Nat → Int → Option (Int × Nat)
  | [], _, _ => none
  | c :: l, i, x => if 10 ≤ i then none else if st = true ∧ (i = 9 ∧ 1 < c ∨ c = 0 ∧ 0 < i) then none else if c < 128 then some (unz (more i x c), i + 1) else rdn st l (i + 1) (more i x c)
theorem rdn_ten (st : Bool) (l : List Int) {i : Nat} (hi : 10 ≤ i) (x : Int) : rdn st l i x = none := by
  cases l with
  | nil => rfl
  | cons c l => simp only [rdn]; rw [if_pos hi]
theorem rdn_strict : ∀ (l : List Int) (i : Nat) (x : Int) (r : Int × Nat), rdn true l i x = some r → rdn false l i x = some r
  | [], _, _, _, h => by cases h
  | c :: l, i, x, r, h => by
    simp only [rdn] at h ⊢
    split at h
    · cases h
    rename_i h1
    rw [if_neg h1]
    split at h
    · cases h
    rw [if_neg (by simp)]
    split at h
    · rename_i h3; rw [if_pos h3]; exact h
    · rename_i h3; rw [if_neg h3]; exact rdn_strict l _ _ _ h
/-- How far it goes. -/
theorem rdn_far (st : Bool) : ∀ (l : List Int) (i : Nat) (x : Int) (v : Int) (k : Nat), rdn st l i x = some (v, k) → 0 ≤ x → x < pp i → i < k ∧ k ≤ i + l.length ∧ k ≤ 10 ∧ I64 v
  | [], _, _, _, _, h, _, _ => by cases h
  | c :: l, i, x, v, k, h, h0, h1 => by
    simp only [rdn] at h
    split at h
    · cases h
    rename_i h2
    split at h
    · cases h
    split at h
    · have hm := more_hi (i := i) (by omega) (c := c) h0 h1
      have hu := unz_range _ hm.1 hm.2
      injection h with h
      injection h with e1 e2
      subst e1 e2
      simp only [List.length_cons]
      exact ⟨by omega, by omega, by omega, hu⟩
    · by_cases h9 : i ≤ 8
      · have hm := more_lt h9 (c := c) h0 h1
        have := rdn_far st l (i + 1) _ v k h hm.1 hm.2
        simp only [List.length_cons]
        exact ⟨by omega, by omega, this.2.2.1, this.2.2.2⟩
      · rw [rdn_ten st l (by omega)] at h
        cases h
theorem rdn_enc (st : Bool) (f : Nat) : ∀ (i : Nat) (x u : Int) (rest : List Int), f + i = 9 → 0 ≤ u → u < pw f → (0 < i → 0 < u) → x + u * pp i < 18446744073709551616 → 0 ≤ x → x < pp i →
    rdn st (vb f u ++ rest) i x = some (unz (x + u * pp i), i + (vb f u).length) := by
  induction f with
  | zero =>
    intro i x u rest hf h0 h1 hz h2 hx0 hx1
    obtain rfl : i = 9 := by clear h0 h1 h2 hx0 hx1 hz; omega
    have h99 : pp 9 = 9223372036854775808 := by decide
    simp only [pw] at h1
    rw [h99] at h2
    have hu : u ≤ 1 := by omega
    simp only [vb, List.cons_append, rdn]
    rw [if_neg (by omega), if_neg (by have := hz (by omega); omega), if_pos (by omega)]
    unfold more
    rw [h99, Int.emod_eq_of_lt (a := u) (by omega) (by omega), Int.emod_eq_of_lt (b := 18446744073709551616) (by omega) (by omega)]
    simp
  | succ f ih =>
    intro i x u rest hf h0 h1 hz h2 hx0 hx1
    have hi8 : i ≤ 8 := by clear h0 h1 h2 hx0 hx1; omega
    rw [pw_succ] at h1
    have hpp := pp_pos i
    simp only [vb]
    by_cases hu : u > 127
    · rw [if_pos hu]
      have hm : (u % 128 + 128) % 128 = u % 128 := by omega
      have hs := split7 u (pp i)
      have hp1 : pp (i + 1) = pp i * 128 := rfl
      have h5 : u % 128 * pp i ≤ 127 * pp i := Int.mul_le_mul_of_nonneg_right (by omega) (by omega)
      have hge : 0 ≤ (u % 128) * pp i := Int.mul_nonneg (by omega) (by omega)
      simp only [List.cons_append, rdn]
      rw [if_neg (by clear h2 hs h5; omega), if_neg (by clear h2 hs h5; omega), if_neg (by clear h2 hs h5; omega), more_small hi8, hm]
      rw [ih (i + 1) (x + u % 128 * pp i) (u / 128) rest (by clear h2 hs h5; omega) (by clear h2 hs h5; omega) (by clear h2 hs h5; omega) (fun _ => by clear h2 hs h5; omega) (by rw [hp1]; clear h5 hge h1 hx0 hx1; omega) (by clear hs h5 h2; omega) (by rw [hp1]; clear hs h2; omega), hp1]
      rw [show x + u % 128 * pp i + u / 128 * (pp i * 128) = x + u * pp i by omega, List.length_cons, show i + 1 + (vb f (u / 128)).length = i + ((vb f (u / 128)).length + 1) by omega]
    · rw [if_neg hu]
      simp only [List.cons_append, rdn]
      rw [if_neg (by clear h2; omega), if_neg (fun h => by clear h2 h1 hx0 hx1; rcases h.2 with h | h; omega; have := hz h.2; omega), if_pos (by clear h2; omega), more_small hi8, Int.emod_eq_of_lt h0 (by clear h2; omega)]
      rfl
theorem rdn_one (st : Bool) {v : Int} (hv : I64 v) (rest : List Int) : rdn st (enc v ++ rest) 0 0 = some (v, (enc v).length) := by
  have := zig_lt v hv.1 hv.2
  have h := rdn_enc st 9 0 0 (zig v) rest rfl (zig_nonneg v) (by rw [pw_nine]; omega) (by omega) (by simp only [pp]; omega) (by omega) (by decide)
  simp [pp, unz_zig] at h
  exact h
theorem rdn_any (f : Nat) : ∀ (l : List Int) (i : Nat) (x v : Int) (k : Nat), Byt l → f + i = 9 → 0 ≤ x → x < pp i → rdn true l i x = some (v, k) →
    ∃ u, 0 ≤ u ∧ (0 < i → 0 < u) ∧ v = unz (x + u * pp i) ∧ k = i + (vb f u).length ∧ l = vb f u ++ l.drop (vb f u).length := by
  induction f with
  | zero =>
    intro l i x v k hB hf hx0 hx1 h
    obtain rfl : i = 9 := by omega
    cases l with
    | nil => cases h
    | cons c l =>
      have hc := hB c (List.mem_cons_self ..)
      simp only [rdn] at h
      rw [if_neg (by omega)] at h
      split at h
      · cases h
      rename_i h2
      have hc1 : 0 < c ∧ c ≤ 1 := by simp at h2; omega
      rw [if_pos (by omega)] at h
      injection h with h
      injection h with e1 e2
      have h99 : pp 9 = 9223372036854775808 := by decide
      refine ⟨c, by omega, fun _ => by omega, ?_, by simp [vb, ← e2], by simp [vb]⟩
      rw [← e1]
      unfold more
      rw [h99, Int.emod_eq_of_lt (a := c) (by omega) (by omega), Int.emod_eq_of_lt (b := 18446744073709551616) (by omega) (by omega)]
  | succ f ih =>
    intro l i x v k hB hf hx0 hx1 h
    cases l with
    | nil => cases h
    | cons c l =>
      have hc := hB c (List.mem_cons_self ..)
      have hi8 : i ≤ 8 := by omega
      simp only [rdn] at h
      rw [if_neg (by omega)] at h
      split at h
      · cases h
      rename_i h2
      have h2' : ¬ (c = 0 ∧ 0 < i) := by simp at h2; omega
      split at h
      · rename_i h3
        injection h with h
        injection h with e1 e2
        rw [more_small hi8, Int.emod_eq_of_lt hc.1 h3] at e1
        have hv : vb (f + 1) c = [c] := by simp only [vb]; rw [if_neg (by omega)]
        exact ⟨c, hc.1, fun _ => by omega, e1.symm, by rw [hv, ← e2]; rfl, by rw [hv]; rfl⟩
      · have hm := more_lt hi8 (c := c) hx0 hx1
        obtain ⟨u, g0, g1, g2, g3, g4⟩ := ih l (i + 1) _ v k (fun y hy => hB y (List.mem_cons_of_mem _ hy)) (by omega) hm.1 hm.2 h
        have g1 := g1 (by omega)
        have hp1 : pp (i + 1) = pp i * 128 := rfl
        have hv : vb (f + 1) (c % 128 + 128 * u) = c :: vb f u := by
          simp only [vb]
          rw [if_pos (by omega), show (c % 128 + 128 * u) % 128 + 128 = c by omega, show (c % 128 + 128 * u) / 128 = u by omega]
        refine ⟨c % 128 + 128 * u, by omega, fun _ => by omega, ?_, ?_, ?_⟩
        · rw [g2, more_small hi8, hp1, Int.add_mul, show 128 * u * pp i = u * (pp i * 128) by rw [Int.mul_comm 128 u, Int.mul_assoc, Int.mul_comm 128], Int.add_assoc]
        · rw [hv, g3, List.length_cons]; omega
        · rw [hv, List.length_cons, List.drop_succ_cons, List.cons_append, ← g4]
/-- What is read in just one way is one's own bytes. -/
theorem rdn_own {l : List Int} (hB : Byt l) {v : Int} {k : Nat} (h : rdn true l 0 0 = some (v, k)) : I64 v ∧ k = (enc v).length ∧ l = enc v ++ l.drop k := by
  obtain ⟨u, g0, _, g2, g3, g4⟩ := rdn_any 9 l 0 0 v k hB rfl (Int.le_refl 0) (by decide) h
  have hv : v = unz u := by simpa [pp] using g2
  have he : enc v = vb 9 u := by unfold enc; rw [hv, zig_unz u g0]
  rw [Nat.zero_add] at g3
  refine ⟨(rdn_far true l 0 0 v k h (Int.le_refl 0) (by decide)).2.2.2, by rw [he, g3], ?_⟩
  rw [he, g3]; exact g4
end Go.Ab
end
section
/-! Rows of numbers in bytes. -/
namespace Go.Ab
@[simp] theorem rowRw_z0 {H X : AH} : rowRw (H ++ X) 0 H.length = rowRw X 0 0 := rowRw_new0 (Nat.zero_le _)
@[simp] theorem rowRw_z {H X : AH} {i : Nat} : rowRw (H ++ X) 0 (H.length + i) = rowRw X 0 i := rowRw_new (Nat.zero_le _)
/-- A slice of bytes of a string. -/
theorem strN_u8s {l : List Int} (h : Byt l) : (strN l).data.toList.map (fun b => AV.int .u8 b.toNat) = u8s l := by
  rw [strN_data, List.map_map]
  unfold u8s
  refine List.map_congr_left fun x hx => ?_
  have := h x hx
  simp
  omega
theorem strN_get {l : List Int} (h : Byt l) {i : Nat} (hi : i < l.length) : ((strN l).data.toList[i]?).map (fun c => AV.int .u8 c.toNat) = some (.int .u8 (l.getD i 0)) := by
  have := congrArg (fun l => l[i]?) (strN_u8s h)
  simp only [List.getElem?_map] at this
  rw [this]
  simp [u8s, List.getElem?_eq_getElem hi]
def encs (l : List Int) : List Int := (l.map enc).flatten
theorem encs_app (a b : List Int) : encs (a ++ b) = encs a ++ encs b := by simp [encs]
theorem encs_one (n : Int) : encs [n] = enc n := by simp [encs]
theorem encs_cons (n : Int) (l : List Int) : encs (n :: l) = enc n ++ encs l := by simp [encs]
theorem encs_take {l : List Int} {i : Nat} (hi : i < l.length) : encs (l.take (i + 1)) = encs (l.take i) ++ enc (l.getD i 0) := by
  rw [List.take_add_one, List.getElem?_eq_getElem hi, encs_app]
  simp [encs, hi]
theorem encs_len : ∀ (l : List Int), (encs l).length ≤ 10 * l.length
  | [] => by simp [encs]
  | n :: l => by
    have h1 := encs_len l
    have h2 := (enc_len n).2
    rw [encs_cons]
    simp; omega
theorem encs_byt {l : List Int} (h : ∀ n ∈ l, I64 n) : Byt (encs l) := fun x hx => by
  simp only [encs, List.mem_flatten, List.mem_map] at hx
  obtain ⟨_, ⟨n, hn, rfl⟩, hx⟩ := hx
  exact enc_byt (h n hn) x hx
theorem encs_nil_iff {l : List Int} (h : encs l = []) : l = [] := by
  cases l with
  | nil => rfl
  | cons n l =>
    rw [encs_cons] at h
    have := (enc_len n).1
    simp at h
    rw [h.1] at this
    simp at this
theorem encs_inj : ∀ {a b : List Int}, (∀ n ∈ a, I64 n) → (∀ n ∈ b, I64 n) → encs a = encs b → a = b
  | [], b, _, _, h => (encs_nil_iff h.symm).symm
  | x :: a, b, ha, hb, h => by
    cases b with
    | nil => exact encs_nil_iff h
    | cons y b =>
      rw [encs_cons, encs_cons] at h
      have h1 := rdn_one true (ha x (by simp)) (encs a)
      rw [h, rdn_one true (hb y (by simp))] at h1
      simp only [Option.some.injEq, Prod.mk.injEq] at h1
      rw [h1.1] at h ⊢
      rw [encs_inj (fun n hn => ha n (by simp [hn])) (fun n hn => hb n (by simp [hn])) (List.append_cancel_left h)]
theorem own_step {bs l : List Int} {at_ kk : Nat} {v : Int} (hB : Byt bs) (h : encs l = bs.take at_) (hr : rdn true (bs.drop at_) 0 0 = some (v, kk)) : encs (l ++ [v]) = bs.take (at_ + kk) := by
  obtain ⟨h1, h2, h3⟩ := rdn_own (hB.drop at_) hr
  rw [encs_app, encs_one, h, List.take_add]
  congr 1
  rw [h3, h2, List.take_left' rfl]
end Go.Ab
end
section
/-! slices.Insert of one element: its text, carried out where the capacity is known. -/
set_option linter.unusedVariables false
set_option linter.unusedSimpArgs false
set_option maxHeartbeats 4000000
set_option maxRecDepth 100000
namespace Go.Proofs.Ytobfodegdbfhdaa.T.InsM
open Go Go.Ab
@[simp] theorem q3 : apN.ty 3 = some t3 := by kernel_rfl
@[simp] theorem q4 : apN.ty 4 = some t4 := by kernel_rfl
@[simp] theorem q22 : apN.ty 22 = some t22 := by kernel_rfl
@[simp] theorem q24 : apN.ty 39 = some t39 := by kernel_rfl
@[simp] theorem qpl : apN.pl = true := rfl
@[simp] theorem qx : apN.ext 42 = some overlapsX := rfl
theorem qf : apN.fn 34 = some f34 := by kernel_rfl
theorem dx11 : drawC apN (drawOf T.c34 11).toList [0, 1, 2, 3, 4, 5, 6, 7, 8] [[], [], [], [1, 2], [0, 1, 2, 3], [], [], [5, 6], [0, 1, 2, 3, 4, 5, 6, 7]] = some d34_11 := by kernel_rfl
theorem dx15 : drawC apN (drawOf T.c34 15).toList [0, 1, 2, 3, 4, 5, 6, 7, 8] [[], [], [], [1, 2], [0, 1, 2, 3], [], [], [5, 6], [0, 1, 2, 3, 4, 5, 6, 7]] = some d34_15 := by kernel_rfl
section
variable {H : AH} {b n c i bv k o sz : Nat} {l lv : List AV}
theorem aslice_lo {cap : Option Nat} (h : i ≤ n) : aslice H sz (.slice (some (b, o)) n cap sz) (some (.int .i64 (i : Int))) none none = some (.slice (some (b, o + i * sz)) (n - i) (cap.map (· - i)) sz) := by
  have h1 : (0 : Int) ≤ i ∧ (i : Int) ≤ n := by omega
  simp [aslice, abound, h]
theorem aslice_hi {z : Int} (hz : z = i) (h : i ≤ c) : aslice H sz (.slice (some (b, o)) n (some c) sz) none (some (.int .i64 z)) none = some (.slice (some (b, o)) i (some c) sz) := by
  subst hz
  simp [aslice, abound, h]
theorem aslice_lo' {z : Int} (hz : z = i) {cap : Option Nat} (h : i ≤ n) : aslice H sz (.slice (some (b, o)) n cap sz) (some (.int .i64 z)) none none = some (.slice (some (b, o + i * sz)) (n - i) (cap.map (· - i)) sz) := by
  subst hz
  exact aslice_lo h
theorem first1 {cv : Option Nat} (hr : rowOf H bv = some lv) (hlv : lv.length = sz) : firstC H sz 1 (.slice (some (bv, 0)) 1 cv sz) = some lv := by
  simp [firstC, hr, ← hlv]
theorem app_in {by_ : Nat} {cv : Option Nat} (hz : 0 < sz) (hby : 0 < by_) (hr : rowOf H bv = some lv) (hlv : lv.length = sz) (ho : lv.all AV.one = true) (hb : H[b]? = some (.cells l .rw)) (hl : l.length = c * sz) (hc : n + 1 ≤ c) :
    aappend 0 H sz by_ (.slice (some (b, 0)) n (some c) sz) (.slice (some (bv, 0)) 1 cv sz) = some (.slice (some (b, 0)) (n + 1) (some c) sz, H.set b (.cells (splice l (n * sz) lv) .rw)) := by
  have h1 : n * sz ≤ l.length := by rw [hl]; exact Nat.mul_le_mul_right _ (by omega)
  have h2 : (n + 1) * sz ≤ l.length := by rw [hl]; exact Nat.mul_le_mul_right _ (by omega)
  have hf := first1 (cv := cv) hr hlv
  rw [aappend_eq, if_pos (by simp [hz, hby])]
  simp only [lenOf, Option.bind_some, hf, ho, Bool.true_eq_false, if_false]
  simp [aappendC, rowOf_rw hb, rowRw_rw hb, h1, h2, hc]
theorem app_new {by_ : Nat} {cv : Option Nat} (hz : 0 < sz) (hby : 0 < by_) (hr : rowOf H bv = some lv) (hlv : lv.length = sz) (ho : lv.all AV.one = true) (hb : H[b]? = some (.cells l .rw)) (hl : l.length = n * sz) (hrm : (n + 1) * by_ ≤ room) :
    aappend 0 H sz by_ (.slice (some (b, 0)) n (some n) sz) (.slice (some (bv, 0)) 1 cv sz) = some (.slice (some (H.length, 0)) (n + 1) none sz, H ++ [.cells (l ++ lv) .rw]) := by
  have hf := first1 (cv := cv) hr hlv
  rw [aappend_eq, if_pos (by simp [hz, hby])]
  simp only [lenOf, Option.bind_some, hf, ho, Bool.true_eq_false, if_false]
  simp [aappendC, rowOf_rw hb, rowRw_rw hb, ← hl, hrm]
theorem acopy_to {s : AV} {m : Nat} {xs R : List AV} {cap : Option Nat} (hs : szOk sz s = true) (hz : 0 < sz) (hm : lenOf s = some m) (hx : firstC H sz (min m n) s = some xs) (h1 : xs.all AV.one = true) (h0 : xs ≠ []) (hl : H[b]? = some (.cells l .rw)) (hf : o + xs.length ≤ l.length) (hR : R = splice l o xs) :
    acopy 0 H sz (.slice (some (b, o)) n cap sz) s = some (.int .i64 (min m n : Nat), H.set b (.cells R .rw)) := by
  subst hR
  unfold acopy
  rw [hs, hm]
  simp only [szOk, lenOf, Option.bind_some, beq_self_eq_true, Bool.and_true, Bool.true_and, hx, h1, rowRw_rw hl, h0, hf]
  simp [hz]
theorem ins_run (hb : H[b]? = some (.cells l .rw)) (hv : H[bv]? = some (.cells lv .pl)) (hbv : bv ≠ b) (hl : l.length = c * 2) (hn : n ≤ c) (hi : i ≤ n) (hlv : lv.length = 2) (ho : lv.all AV.one = true) (hol : (l.take (n * 2)).all AV.one = true) (hn2 : n ≤ 1000000) :
    Hx (callA apN (k + 1) (.func 34 [] []) [.slice (some (b, 0)) n (some c) 2, .int .i64 i, .slice (some (bv, 0)) 1 (some 1) 2] 0 H) (InsPost 2 H b n c i l lv) := by
  rw [hx_go qf rfl, b34]
  have rb := rowOf_rw hb
  have rwb := rowRw_rw hb
  have rv : rowOf H bv = some lv := by simp [rowOf, hv]
  have lt := lt_of_get hb
  have hi0 : (0 : Int) ≤ i := by omega
  have hi1 : (i : Int) ≤ n := by omega
  have hbl : b < H.length := lt
  by_cases hin : i = n
  · subst hin
    have hle := Nat.le_refl i
    by_cases hc : i + 1 ≤ c
    · have key := app_in (by_ := 16) (cv := some 1) (by omega) (by omega) rv hlv ho hb hl hc
      simp [aslice_lo, key]
      refine ⟨b, some c, l.drop (i * 2 + 2), _, _, rfl, ?_, fun x hx hn => ?_, .inl ⟨rfl, rfl⟩, List.getElem?_set_self hbl⟩
      · rw [List.getElem?_set_self hbl]
        have : (i * 2 + 2) = i * 2 + lv.length := by omega
        simp [newR, splice, this]
      · rw [List.getElem?_set_ne (by omega)]
    · have hic : c = i := by omega
      subst hic
      have key := app_new (by_ := 16) (cv := some 1) (by omega) (by omega) rv hlv ho hb hl (by unfold room; omega)
      simp [aslice_lo, key]
      refine ⟨H.length, none, [], l, .rw, rfl, ?_, fun x hx hn => ?_, .inr ⟨Nat.le_refl _, rfl⟩, ?_⟩
      · simp [newR, ← hl]
      · rw [List.getElem?_append_left hx]
      · rw [List.getElem?_append_left hbl, hb]
  · have hin' : i < n := by omega
    have hinI : ¬ (i : Int) = n := by omega
    have hne : lv ≠ [] := fun h => by rw [h] at hlv; simp at hlv
    have hne2 : l ≠ [] := fun h => by rw [h] at hl; simp at hl; omega
    have w1 : IntKind.i64.wrap ((n : Int) + 1) = (n : Int) + 1 := wrap_i64 (by omega) (by omega)
    have w2 : IntKind.i64.wrap ((i : Int) + 1) = (i : Int) + 1 := wrap_i64 (by omega) (by omega)
    have a1 := fun (H : AH) (cap : Option Nat) => @aslice_lo H b n i 0 2 cap hi
    have hX1 : ((l.drop (i * 2)).take ((n - i) * 2)).all AV.one = true := by
      rw [List.all_eq_true] at hol ⊢
      intro x hx
      refine hol x ?_
      rw [show (n - i) * 2 = n * 2 - i * 2 by omega, ← List.drop_take] at hx
      exact List.mem_of_mem_drop hx
    have hXl : ((l.drop (i * 2)).take ((n - i) * 2)).length = (n - i) * 2 := by simp; omega
    have hX0 : (l.drop (i * 2)).take ((n - i) * 2) ≠ [] := fun h => by rw [h] at hXl; simp at hXl; omega
    by_cases hc : n + 1 ≤ c
    · have hci : ¬ (c : Int) < (n : Int) + 1 := by omega
      have a2 := fun (H : AH) => aslice_hi (H := H) (b := b) (n := n) (c := c) (i := n + 1) (o := 0) (sz := 2) (z := (n : Int) + 1) (by omega) hc
      have a3 := fun (H : AH) => aslice_lo' (H := H) (b := b) (n := n + 1) (i := i + 1) (o := 0) (sz := 2) (cap := some c) (z := (i : Int) + 1) (by omega) (by omega)
      have a4 := fun (H : AH) => aslice_lo' (H := H) (b := b) (n := n + 1) (i := i) (o := 0) (sz := 2) (cap := some c) (z := (i : Int)) rfl (by omega)
      have ov : overlapsX [.slice (some (bv, 0)) 1 (some 1) 2, .slice (some (b, (i + 1) * 2)) (n + 1 - (i + 1)) (some (c - (i + 1))) 2] H = some (.bool false, H) := by
        unfold overlapsX
        obtain ⟨y, lv', rfl⟩ := List.exists_cons_of_ne_nil hne
        obtain ⟨x, l', rfl⟩ := List.exists_cons_of_ne_nil hne2
        simp only [hv, hb]
        rw [if_pos ⟨hbv, by omega, by omega⟩]
      simp only [Nat.zero_add, Option.map_some] at a1 a2 a3 a4
      simp only [show n + 1 - (i + 1) = n - i by omega] at a3 ov
      simp [a1, w1, hci, hinI, a2, w2, a3, ov]
      refine hx_drawn dx15 fun D cD _ _ => ?_
      have hbD := cD.get hb (by simp)
      have f1 : firstC D 2 (n - i) (.slice (some (b, i * 2)) (n + 1 - i) (some (c - i)) 2) = some ((l.drop (i * 2)).take ((n - i) * 2)) := by
        simp [firstC, rowOf_rw hbD]
        omega
      obtain ⟨X, eX⟩ : ∃ X, X = (l.drop (i * 2)).take ((n - i) * 2) := ⟨_, rfl⟩
      rw [← eX] at hX1 hXl hX0 f1
      obtain ⟨R1, eR1⟩ : ∃ R1, R1 = splice l ((i + 1) * 2) X := ⟨_, rfl⟩
      obtain ⟨R2, eR2⟩ : ∃ R2, R2 = splice R1 (i * 2) lv := ⟨_, rfl⟩
      have hR1 : R1 = l.take ((i + 1) * 2) ++ X ++ l.drop ((n + 1) * 2) := by
        rw [eR1, splice, hXl, show (i + 1) * 2 + (n - i) * 2 = (n + 1) * 2 by omega]
      have hR1l : R1.length = c * 2 := by rw [hR1]; simp [hXl, hl]; omega
      have k1 := acopy_to (H := D) (b := b) (n := n - i) (o := (i + 1) * 2) (sz := 2) (cap := some (c - (i + 1))) (s := .slice (some (b, i * 2)) (n + 1 - i) (some (c - i)) 2) (m := n + 1 - i) (by simp) (by omega) rfl
        (by rw [Nat.min_eq_right (by omega)]; exact f1) hX1 hX0 hbD (by rw [hXl]; omega) eR1
      have lD := cD.1
      have hb1 : (D.set b (.cells R1 .rw))[b]? = some (.cells R1 .rw) := List.getElem?_set_self (by omega)
      have rv1 : rowOf (D.set b (.cells R1 .rw)) bv = some lv := by
        unfold rowOf
        rw [List.getElem?_set_ne (by omega), cD.get hv (by simp)]
      have k2 := acopy_to (H := D.set b (.cells R1 .rw)) (b := b) (n := n + 1 - i) (o := i * 2) (sz := 2) (cap := some (c - i)) (s := .slice (some (bv, 0)) 1 (some 1) 2) (m := 1) (by simp) (by omega) rfl
        (by rw [Nat.min_eq_left (by omega)]; exact first1 rv1 hlv) ho hne hb1 (by rw [hlv]; omega) eR2
      simp [d34_15, w2, a3, a4, k1, k2]
      refine ⟨b, some c, l.drop ((n + 1) * 2), _, _, rfl, ?_, fun x hx hn => ?_, .inl ⟨rfl, rfl⟩, List.getElem?_set_self (by omega)⟩
      · rw [List.getElem?_set_self (by omega), newR_eq, eR2, splice, hR1, hlv, show n * 2 - i * 2 = (n - i) * 2 by omega, ← eX]
        have q1 : (l.take ((i + 1) * 2) ++ X ++ l.drop ((n + 1) * 2)).take (i * 2) = l.take (i * 2) := by
          rw [List.append_assoc, List.take_append_of_le_length (by simp; omega), List.take_take, Nat.min_eq_left (by omega)]
        have q2 : (l.take ((i + 1) * 2) ++ X ++ l.drop ((n + 1) * 2)).drop (i * 2 + 2) = X ++ l.drop ((n + 1) * 2) := by
          rw [List.append_assoc, List.drop_left' (by simp; omega)]
        rw [q1, q2]
        simp
      · rw [List.getElem?_set_ne (by omega)]
        exact cD.2 x hx (by simp)
    · have hcn : c = n := by omega
      subst hcn
      have hci : (c : Int) < (c : Int) + 1 := by omega
      have a2 := fun (H : AH) => aslice_hi (H := H) (b := b) (n := c) (c := c) (i := i) (o := 0) (sz := 2) (z := (i : Int)) rfl hi
      obtain ⟨d, hd⟩ : ∃ d, d = c + 1 - i := ⟨_, rfl⟩
      have w3 : IntKind.i64.wrap ((c : Int) + 1 - i) = (d : Int) := by rw [wrap_i64 (by omega) (by omega)]; omega
      obtain ⟨Z, hZ⟩ : ∃ Z, Z = (List.replicate d (t39.zero)).flatten := ⟨_, rfl⟩
      simp only [Nat.zero_add, Option.map_some] at a1 a2
      have hZl : Z.length = d * 2 := by
        rw [hZ, flatten_len (sz := 2) _ (fun x hx => by rw [List.eq_of_mem_replicate hx]; rfl), List.length_replicate]
      have kz : aappendZ 0 H t39 (.slice (some (b, 0)) i (some c) 2) (.int .i64 d) = some (.slice (some (H.length, 0)) (c + 1) none 2, H ++ [.cells (l.take (i * 2) ++ Z) .rw]) := by
        unfold aappendZ
        simp only
        rw [if_pos (by simp [t39, room]; exact decide_eq_true (by omega))]
        rw [show (d : Int).toNat = d by omega, ← hZ]
        simp [t39, aappendC, rb, show ¬ d = 0 by omega, show i * 2 ≤ l.length by omega, show ¬ i + d ≤ c by omega, show (i + d) * 16 ≤ room by unfold room; omega]
        omega
      obtain ⟨R0, eR0⟩ : ∃ R0, R0 = l.take (i * 2) ++ Z := ⟨_, rfl⟩
      rw [← eR0] at kz
      have hR0l : R0.length = (c + 1) * 2 := by rw [eR0]; simp [hZl]; omega
      obtain ⟨H1, eH1⟩ : ∃ H1, H1 = H ++ [.cells R0 .rw] := ⟨_, rfl⟩
      have c1 : Chg [] H H1 := by rw [eH1]; exact .app _ _
      have g1 : H1[H.length]? = some (.cells R0 .rw) := by rw [eH1]; simp
      rw [← eH1] at kz
      have a5 := fun (G : AH) => aslice_lo' (H := G) (b := H.length) (n := c + 1) (i := i) (o := 0) (sz := 2) (cap := none) (z := (i : Int)) rfl (by omega)
      have a6 := fun (G : AH) => aslice_lo' (H := G) (b := H.length) (n := c + 1) (i := i + 1) (o := 0) (sz := 2) (cap := none) (z := (i : Int) + 1) (by omega) (by omega)
      obtain ⟨X, eX⟩ : ∃ X, X = (l.drop (i * 2)).take ((c - i) * 2) := ⟨_, rfl⟩
      rw [← eX] at hX1 hXl hX0
      obtain ⟨R1, eR1⟩ : ∃ R1, R1 = splice R0 (i * 2) lv := ⟨_, rfl⟩
      obtain ⟨R2, eR2⟩ : ∃ R2, R2 = splice R1 ((i + 1) * 2) X := ⟨_, rfl⟩
      have rv1 : rowOf H1 bv = some lv := c1.row rv (by simp)
      have k1 := acopy_to (H := H1) (b := H.length) (n := c + 1 - i) (o := i * 2) (sz := 2) (cap := none) (s := .slice (some (bv, 0)) 1 (some 1) 2) (m := 1) (by simp) (by omega) rfl
        (by rw [Nat.min_eq_left (by omega)]; exact first1 rv1 hlv) ho hne g1 (by rw [hlv]; omega) eR1
      have hR1 : R1 = l.take (i * 2) ++ (lv ++ Z.drop 2) := by
        have q0 : (l.take (i * 2)).length = i * 2 := by simp; omega
        rw [eR1, splice, eR0, hlv, List.take_left' q0, show i * 2 + 2 = (l.take (i * 2)).length + 2 by omega, ← List.drop_drop, List.drop_left, List.append_assoc]
      have hR1l : R1.length = (c + 1) * 2 := by rw [hR1]; simp [hZl, hlv]; omega
      simp only [t39] at kz
      simp only [Nat.zero_add, Option.map_none, Option.map_some] at a5 a6
      simp only [show c + 1 - (i + 1) = c - i by omega] at a6
      simp [a1, w1, hci, hinI, a2, w3, Ab.apI, kz, a5, k1]
      refine hx_drawn dx11 fun D cD _ _ => ?_
      have l1 : H1.length = H.length + 1 := by rw [eH1]; simp
      have gD : D[H.length]? = some (.cells R1 .rw) := cD.get (List.getElem?_set_self (by omega)) (by simp)
      have hbD : D[b]? = some (.cells l .rw) := cD.get (by rw [List.getElem?_set_ne (by omega)]; exact c1.get hb (by simp)) (by simp)
      have f1 : firstC D 2 (c - i) (.slice (some (b, i * 2)) (c - i) (some (c - i)) 2) = some X := by
        rw [eX]
        simp [firstC, rowOf_rw hbD]
        omega
      have k2 := acopy_to (H := D) (b := H.length) (n := c - i) (o := (i + 1) * 2) (sz := 2) (cap := none) (s := .slice (some (b, i * 2)) (c - i) (some (c - i)) 2) (m := c - i) (by simp) (by omega) rfl
        (by rw [Nat.min_self]; exact f1) hX1 hX0 gD (by rw [hXl, hR1l]; omega) eR2
      have lD := cD.1
      rw [List.length_set] at lD
      simp [d34_11, w2, a1, a6, k2]
      refine ⟨H.length, none, [], l, .rw, rfl, ?_, fun x hx hn => ?_, .inr ⟨Nat.le_refl _, rfl⟩, ?_⟩
      · rw [List.getElem?_set_self (by omega), newR_eq, eR2, splice, hXl, show c * 2 - i * 2 = (c - i) * 2 by omega, ← eX]
        have q1 : R1.take ((i + 1) * 2) = l.take (i * 2) ++ lv := by
          rw [hR1, ← List.append_assoc, List.take_left' (by simp [hlv]; omega)]
        have q2 : R1.drop ((i + 1) * 2 + (c - i) * 2) = [] := List.drop_eq_nil_of_le (by omega)
        rw [q1, q2]
        simp
      · rw [List.getElem?_set_ne (by omega), cD.2 x (by simp; omega) (by simp), List.getElem?_set_ne (by omega)]
        exact c1.2 x hx (by simp)
      · rw [List.getElem?_set_ne (by omega)]
        exact hbD
end
end Go.Proofs.Ytobfodegdbfhdaa.T.InsM
end
section
/-! slices.Insert of one element: a contract. -/
set_option linter.unusedVariables false
set_option linter.unusedSimpArgs false
set_option maxHeartbeats 4000000
set_option maxRecDepth 100000
namespace Go.Proofs.Ytobfodegdbfhdaa.T.InsM
open Go Go.Ab
section
variable {H : AH} {bv k : Nat} {lv : List AV} {s : AV}
theorem ins_run0 (hv : H[bv]? = some (.cells lv .pl)) (hlv : lv.length = 2) (ho : lv.all AV.one = true) (hs : (∃ c s', s = .slice none 0 c s') ∨ (∃ b o l, s = .slice (some (b, o)) 0 (some 0) 2 ∧ rowOf H b = some l ∧ o ≤ l.length)) :
    callA apN (k + 1) (.func 34 [] []) [s, .int .i64 0, .slice (some (bv, 0)) 1 (some 1) 2] 0 H = some (.slice (some (H.length, 0)) 1 none 2, H ++ [.cells lv .rw]) := by
  refine Hx.eqn ?_
  rw [hx_go qf rfl, b34]
  have rv : rowOf H bv = some lv := by simp [rowOf, hv]
  have hf := first1 (cv := some 1) rv hlv
  rcases hs with ⟨c, s', rfl⟩ | ⟨b, o, l, rfl, hl, hol⟩
  · have key : aappend 0 H 2 16 (.slice none 0 c s') (.slice (some (bv, 0)) 1 (some 1) 2) = some (.slice (some (H.length, 0)) 1 none 2, H ++ [.cells lv .rw]) := by
      rw [aappend_eq, if_pos (by simp)]
      simp only [lenOf, Option.bind_some, hf, ho, Bool.true_eq_false, if_false]
      simp [aappendC, room]
    simp [aslice, abound, key]
  · have key : aappend 0 H 2 16 (.slice (some (b, o)) 0 (some 0) 2) (.slice (some (bv, 0)) 1 (some 1) 2) = some (.slice (some (H.length, 0)) 1 none 2, H ++ [.cells lv .rw]) := by
      rw [aappend_eq, if_pos (by simp)]
      simp only [lenOf, Option.bind_some, hf, ho, Bool.true_eq_false, if_false]
      simp [aappendC, room, hl, hol]
    simp [aslice, abound, key]
end
end Go.Proofs.Ytobfodegdbfhdaa.T.InsM
end
section
/-! slices.Insert of one element: its text, carried out where the capacity is known. -/
set_option linter.unusedVariables false
set_option linter.unusedSimpArgs false
set_option maxHeartbeats 4000000
set_option maxRecDepth 100000
namespace Go.Proofs.Ytobfodegdbfhdaa.T.InsA
open Go Go.Ab
@[simp] theorem q3 : apN.ty 3 = some t3 := by kernel_rfl
@[simp] theorem q4 : apN.ty 4 = some t4 := by kernel_rfl
@[simp] theorem q22 : apN.ty 23 = some t23 := by kernel_rfl
@[simp] theorem q24 : apN.ty 25 = some t25 := by kernel_rfl
@[simp] theorem qpl : apN.pl = true := rfl
@[simp] theorem qx : apN.ext 44 = some overlapsX := rfl
theorem qf : apN.fn 36 = some f36 := by kernel_rfl
theorem dx11 : drawC apN (drawOf T.c36 11).toList [0, 1, 2, 3, 4, 5, 6, 7, 8] [[], [], [], [1, 2], [0, 1, 2, 3], [], [], [5, 6], [0, 1, 2, 3, 4, 5, 6, 7]] = some d36_11 := by kernel_rfl
theorem dx15 : drawC apN (drawOf T.c36 15).toList [0, 1, 2, 3, 4, 5, 6, 7, 8] [[], [], [], [1, 2], [0, 1, 2, 3], [], [], [5, 6], [0, 1, 2, 3, 4, 5, 6, 7]] = some d36_15 := by kernel_rfl
section
variable {H : AH} {b n c i bv k o sz : Nat} {l lv : List AV}
theorem aslice_lo {cap : Option Nat} (h : i ≤ n) : aslice H sz (.slice (some (b, o)) n cap sz) (some (.int .i64 (i : Int))) none none = some (.slice (some (b, o + i * sz)) (n - i) (cap.map (· - i)) sz) := by
  have h1 : (0 : Int) ≤ i ∧ (i : Int) ≤ n := by omega
  simp [aslice, abound, h]
theorem aslice_hi {z : Int} (hz : z = i) (h : i ≤ c) : aslice H sz (.slice (some (b, o)) n (some c) sz) none (some (.int .i64 z)) none = some (.slice (some (b, o)) i (some c) sz) := by
  subst hz
  simp [aslice, abound, h]
theorem aslice_lo' {z : Int} (hz : z = i) {cap : Option Nat} (h : i ≤ n) : aslice H sz (.slice (some (b, o)) n cap sz) (some (.int .i64 z)) none none = some (.slice (some (b, o + i * sz)) (n - i) (cap.map (· - i)) sz) := by
  subst hz
  exact aslice_lo h
theorem first1 {cv : Option Nat} (hr : rowOf H bv = some lv) (hlv : lv.length = sz) : firstC H sz 1 (.slice (some (bv, 0)) 1 cv sz) = some lv := by
  simp [firstC, hr, ← hlv]
theorem app_in {by_ : Nat} {cv : Option Nat} (hz : 0 < sz) (hby : 0 < by_) (hr : rowOf H bv = some lv) (hlv : lv.length = sz) (ho : lv.all AV.one = true) (hb : H[b]? = some (.cells l .rw)) (hl : l.length = c * sz) (hc : n + 1 ≤ c) :
    aappend 0 H sz by_ (.slice (some (b, 0)) n (some c) sz) (.slice (some (bv, 0)) 1 cv sz) = some (.slice (some (b, 0)) (n + 1) (some c) sz, H.set b (.cells (splice l (n * sz) lv) .rw)) := by
  have h1 : n * sz ≤ l.length := by rw [hl]; exact Nat.mul_le_mul_right _ (by omega)
  have h2 : (n + 1) * sz ≤ l.length := by rw [hl]; exact Nat.mul_le_mul_right _ (by omega)
  have hf := first1 (cv := cv) hr hlv
  rw [aappend_eq, if_pos (by simp [hz, hby])]
  simp only [lenOf, Option.bind_some, hf, ho, Bool.true_eq_false, if_false]
  simp [aappendC, rowOf_rw hb, rowRw_rw hb, h1, h2, hc]
theorem app_new {by_ : Nat} {cv : Option Nat} (hz : 0 < sz) (hby : 0 < by_) (hr : rowOf H bv = some lv) (hlv : lv.length = sz) (ho : lv.all AV.one = true) (hb : H[b]? = some (.cells l .rw)) (hl : l.length = n * sz) (hrm : (n + 1) * by_ ≤ room) :
    aappend 0 H sz by_ (.slice (some (b, 0)) n (some n) sz) (.slice (some (bv, 0)) 1 cv sz) = some (.slice (some (H.length, 0)) (n + 1) none sz, H ++ [.cells (l ++ lv) .rw]) := by
  have hf := first1 (cv := cv) hr hlv
  rw [aappend_eq, if_pos (by simp [hz, hby])]
  simp only [lenOf, Option.bind_some, hf, ho, Bool.true_eq_false, if_false]
  simp [aappendC, rowOf_rw hb, rowRw_rw hb, ← hl, hrm]
theorem acopy_to {s : AV} {m : Nat} {xs R : List AV} {cap : Option Nat} (hs : szOk sz s = true) (hz : 0 < sz) (hm : lenOf s = some m) (hx : firstC H sz (min m n) s = some xs) (h1 : xs.all AV.one = true) (h0 : xs ≠ []) (hl : H[b]? = some (.cells l .rw)) (hf : o + xs.length ≤ l.length) (hR : R = splice l o xs) :
    acopy 0 H sz (.slice (some (b, o)) n cap sz) s = some (.int .i64 (min m n : Nat), H.set b (.cells R .rw)) := by
  subst hR
  unfold acopy
  rw [hs, hm]
  simp only [szOk, lenOf, Option.bind_some, beq_self_eq_true, Bool.and_true, Bool.true_and, hx, h1, rowRw_rw hl, h0, hf]
  simp [hz]
theorem ins_run (hb : H[b]? = some (.cells l .rw)) (hv : H[bv]? = some (.cells lv .pl)) (hbv : bv ≠ b) (hl : l.length = c * 4) (hn : n ≤ c) (hi : i ≤ n) (hlv : lv.length = 4) (ho : lv.all AV.one = true) (hol : (l.take (n * 4)).all AV.one = true) (hn2 : n ≤ 1000000) :
    Hx (callA apN (k + 1) (.func 36 [] []) [.slice (some (b, 0)) n (some c) 4, .int .i64 i, .slice (some (bv, 0)) 1 (some 1) 4] 0 H) (InsPost 4 H b n c i l lv) := by
  rw [hx_go qf rfl, b36]
  have rb := rowOf_rw hb
  have rwb := rowRw_rw hb
  have rv : rowOf H bv = some lv := by simp [rowOf, hv]
  have lt := lt_of_get hb
  have hi0 : (0 : Int) ≤ i := by omega
  have hi1 : (i : Int) ≤ n := by omega
  have hbl : b < H.length := lt
  by_cases hin : i = n
  · subst hin
    have hle := Nat.le_refl i
    by_cases hc : i + 1 ≤ c
    · have key := app_in (by_ := 32) (cv := some 1) (by omega) (by omega) rv hlv ho hb hl hc
      simp [aslice_lo, key]
      refine ⟨b, some c, l.drop (i * 4 + 4), _, _, rfl, ?_, fun x hx hn => ?_, .inl ⟨rfl, rfl⟩, List.getElem?_set_self hbl⟩
      · rw [List.getElem?_set_self hbl]
        have : (i * 4 + 4) = i * 4 + lv.length := by omega
        simp [newR, splice, this]
      · rw [List.getElem?_set_ne (by omega)]
    · have hic : c = i := by omega
      subst hic
      have key := app_new (by_ := 32) (cv := some 1) (by omega) (by omega) rv hlv ho hb hl (by unfold room; omega)
      simp [aslice_lo, key]
      refine ⟨H.length, none, [], l, .rw, rfl, ?_, fun x hx hn => ?_, .inr ⟨Nat.le_refl _, rfl⟩, ?_⟩
      · simp [newR, ← hl]
      · rw [List.getElem?_append_left hx]
      · rw [List.getElem?_append_left hbl, hb]
  · have hin' : i < n := by omega
    have hinI : ¬ (i : Int) = n := by omega
    have hne : lv ≠ [] := fun h => by rw [h] at hlv; simp at hlv
    have hne2 : l ≠ [] := fun h => by rw [h] at hl; simp at hl; omega
    have w1 : IntKind.i64.wrap ((n : Int) + 1) = (n : Int) + 1 := wrap_i64 (by omega) (by omega)
    have w2 : IntKind.i64.wrap ((i : Int) + 1) = (i : Int) + 1 := wrap_i64 (by omega) (by omega)
    have a1 := fun (H : AH) (cap : Option Nat) => @aslice_lo H b n i 0 4 cap hi
    have hX1 : ((l.drop (i * 4)).take ((n - i) * 4)).all AV.one = true := by
      rw [List.all_eq_true] at hol ⊢
      intro x hx
      refine hol x ?_
      rw [show (n - i) * 4 = n * 4 - i * 4 by omega, ← List.drop_take] at hx
      exact List.mem_of_mem_drop hx
    have hXl : ((l.drop (i * 4)).take ((n - i) * 4)).length = (n - i) * 4 := by simp; omega
    have hX0 : (l.drop (i * 4)).take ((n - i) * 4) ≠ [] := fun h => by rw [h] at hXl; simp at hXl; omega
    by_cases hc : n + 1 ≤ c
    · have hci : ¬ (c : Int) < (n : Int) + 1 := by omega
      have a2 := fun (H : AH) => aslice_hi (H := H) (b := b) (n := n) (c := c) (i := n + 1) (o := 0) (sz := 4) (z := (n : Int) + 1) (by omega) hc
      have a3 := fun (H : AH) => aslice_lo' (H := H) (b := b) (n := n + 1) (i := i + 1) (o := 0) (sz := 4) (cap := some c) (z := (i : Int) + 1) (by omega) (by omega)
      have a4 := fun (H : AH) => aslice_lo' (H := H) (b := b) (n := n + 1) (i := i) (o := 0) (sz := 4) (cap := some c) (z := (i : Int)) rfl (by omega)
      have ov : overlapsX [.slice (some (bv, 0)) 1 (some 1) 4, .slice (some (b, (i + 1) * 4)) (n + 1 - (i + 1)) (some (c - (i + 1))) 4] H = some (.bool false, H) := by
        unfold overlapsX
        obtain ⟨y, lv', rfl⟩ := List.exists_cons_of_ne_nil hne
        obtain ⟨x, l', rfl⟩ := List.exists_cons_of_ne_nil hne2
        simp only [hv, hb]
        rw [if_pos ⟨hbv, by omega, by omega⟩]
      simp only [Nat.zero_add, Option.map_some] at a1 a2 a3 a4
      simp only [show n + 1 - (i + 1) = n - i by omega] at a3 ov
      simp [a1, w1, hci, hinI, a2, w2, a3, ov]
      refine hx_drawn dx15 fun D cD _ _ => ?_
      have hbD := cD.get hb (by simp)
      have f1 : firstC D 4 (n - i) (.slice (some (b, i * 4)) (n + 1 - i) (some (c - i)) 4) = some ((l.drop (i * 4)).take ((n - i) * 4)) := by
        simp [firstC, rowOf_rw hbD]
        omega
      obtain ⟨X, eX⟩ : ∃ X, X = (l.drop (i * 4)).take ((n - i) * 4) := ⟨_, rfl⟩
      rw [← eX] at hX1 hXl hX0 f1
      obtain ⟨R1, eR1⟩ : ∃ R1, R1 = splice l ((i + 1) * 4) X := ⟨_, rfl⟩
      obtain ⟨R2, eR2⟩ : ∃ R2, R2 = splice R1 (i * 4) lv := ⟨_, rfl⟩
      have hR1 : R1 = l.take ((i + 1) * 4) ++ X ++ l.drop ((n + 1) * 4) := by
        rw [eR1, splice, hXl, show (i + 1) * 4 + (n - i) * 4 = (n + 1) * 4 by omega]
      have hR1l : R1.length = c * 4 := by rw [hR1]; simp [hXl, hl]; omega
      have k1 := acopy_to (H := D) (b := b) (n := n - i) (o := (i + 1) * 4) (sz := 4) (cap := some (c - (i + 1))) (s := .slice (some (b, i * 4)) (n + 1 - i) (some (c - i)) 4) (m := n + 1 - i) (by simp) (by omega) rfl
        (by rw [Nat.min_eq_right (by omega)]; exact f1) hX1 hX0 hbD (by rw [hXl]; omega) eR1
      have lD := cD.1
      have hb1 : (D.set b (.cells R1 .rw))[b]? = some (.cells R1 .rw) := List.getElem?_set_self (by omega)
      have rv1 : rowOf (D.set b (.cells R1 .rw)) bv = some lv := by
        unfold rowOf
        rw [List.getElem?_set_ne (by omega), cD.get hv (by simp)]
      have k2 := acopy_to (H := D.set b (.cells R1 .rw)) (b := b) (n := n + 1 - i) (o := i * 4) (sz := 4) (cap := some (c - i)) (s := .slice (some (bv, 0)) 1 (some 1) 4) (m := 1) (by simp) (by omega) rfl
        (by rw [Nat.min_eq_left (by omega)]; exact first1 rv1 hlv) ho hne hb1 (by rw [hlv]; omega) eR2
      simp [d36_15, w2, a3, a4, k1, k2]
      refine ⟨b, some c, l.drop ((n + 1) * 4), _, _, rfl, ?_, fun x hx hn => ?_, .inl ⟨rfl, rfl⟩, List.getElem?_set_self (by omega)⟩
      · rw [List.getElem?_set_self (by omega), newR_eq, eR2, splice, hR1, hlv, show n * 4 - i * 4 = (n - i) * 4 by omega, ← eX]
        have q1 : (l.take ((i + 1) * 4) ++ X ++ l.drop ((n + 1) * 4)).take (i * 4) = l.take (i * 4) := by
          rw [List.append_assoc, List.take_append_of_le_length (by simp; omega), List.take_take, Nat.min_eq_left (by omega)]
        have q2 : (l.take ((i + 1) * 4) ++ X ++ l.drop ((n + 1) * 4)).drop (i * 4 + 4) = X ++ l.drop ((n + 1) * 4) := by
          rw [List.append_assoc, List.drop_left' (by simp; omega)]
        rw [q1, q2]
        simp
      · rw [List.getElem?_set_ne (by omega)]
        exact cD.2 x hx (by simp)
    · have hcn : c = n := by omega
      subst hcn
      have hci : (c : Int) < (c : Int) + 1 := by omega
      have a2 := fun (H : AH) => aslice_hi (H := H) (b := b) (n := c) (c := c) (i := i) (o := 0) (sz := 4) (z := (i : Int)) rfl hi
      obtain ⟨d, hd⟩ : ∃ d, d = c + 1 - i := ⟨_, rfl⟩
      have w3 : IntKind.i64.wrap ((c : Int) + 1 - i) = (d : Int) := by rw [wrap_i64 (by omega) (by omega)]; omega
      obtain ⟨Z, hZ⟩ : ∃ Z, Z = (List.replicate d (t25.zero)).flatten := ⟨_, rfl⟩
      simp only [Nat.zero_add, Option.map_some] at a1 a2
      have hZl : Z.length = d * 4 := by
        rw [hZ, flatten_len (sz := 4) _ (fun x hx => by rw [List.eq_of_mem_replicate hx]; rfl), List.length_replicate]
      have kz : aappendZ 0 H t25 (.slice (some (b, 0)) i (some c) 4) (.int .i64 d) = some (.slice (some (H.length, 0)) (c + 1) none 4, H ++ [.cells (l.take (i * 4) ++ Z) .rw]) := by
        unfold aappendZ
        simp only
        rw [if_pos (by simp [t25, room]; exact decide_eq_true (by omega))]
        rw [show (d : Int).toNat = d by omega, ← hZ]
        simp [t25, aappendC, rb, show ¬ d = 0 by omega, show i * 4 ≤ l.length by omega, show ¬ i + d ≤ c by omega, show (i + d) * 32 ≤ room by unfold room; omega]
        omega
      obtain ⟨R0, eR0⟩ : ∃ R0, R0 = l.take (i * 4) ++ Z := ⟨_, rfl⟩
      rw [← eR0] at kz
      have hR0l : R0.length = (c + 1) * 4 := by rw [eR0]; simp [hZl]; omega
      obtain ⟨H1, eH1⟩ : ∃ H1, H1 = H ++ [.cells R0 .rw] := ⟨_, rfl⟩
      have c1 : Chg [] H H1 := by rw [eH1]; exact .app _ _
      have g1 : H1[H.length]? = some (.cells R0 .rw) := by rw [eH1]; simp
      rw [← eH1] at kz
      have a5 := fun (G : AH) => aslice_lo' (H := G) (b := H.length) (n := c + 1) (i := i) (o := 0) (sz := 4) (cap := none) (z := (i : Int)) rfl (by omega)
      have a6 := fun (G : AH) => aslice_lo' (H := G) (b := H.length) (n := c + 1) (i := i + 1) (o := 0) (sz := 4) (cap := none) (z := (i : Int) + 1) (by omega) (by omega)
      obtain ⟨X, eX⟩ : ∃ X, X = (l.drop (i * 4)).take ((c - i) * 4) := ⟨_, rfl⟩
      rw [← eX] at hX1 hXl hX0
      obtain ⟨R1, eR1⟩ : ∃ R1, R1 = splice R0 (i * 4) lv := ⟨_, rfl⟩
      obtain ⟨R2, eR2⟩ : ∃ R2, R2 = splice R1 ((i + 1) * 4) X := ⟨_, rfl⟩
      have rv1 : rowOf H1 bv = some lv := c1.row rv (by simp)
      have k1 := acopy_to (H := H1) (b := H.length) (n := c + 1 - i) (o := i * 4) (sz := 4) (cap := none) (s := .slice (some (bv, 0)) 1 (some 1) 4) (m := 1) (by simp) (by omega) rfl
        (by rw [Nat.min_eq_left (by omega)]; exact first1 rv1 hlv) ho hne g1 (by rw [hlv]; omega) eR1
      have hR1 : R1 = l.take (i * 4) ++ (lv ++ Z.drop 4) := by
        have q0 : (l.take (i * 4)).length = i * 4 := by simp; omega
        rw [eR1, splice, eR0, hlv, List.take_left' q0, show i * 4 + 4 = (l.take (i * 4)).length + 4 by omega, ← List.drop_drop, List.drop_left, List.append_assoc]
      have hR1l : R1.length = (c + 1) * 4 := by rw [hR1]; simp [hZl, hlv]; omega
      simp only [t25] at kz
      simp only [Nat.zero_add, Option.map_none, Option.map_some] at a5 a6
      simp only [show c + 1 - (i + 1) = c - i by omega] at a6
      simp [a1, w1, hci, hinI, a2, w3, Ab.apI, kz, a5, k1]
      refine hx_drawn dx11 fun D cD _ _ => ?_
      have l1 : H1.length = H.length + 1 := by rw [eH1]; simp
      have gD : D[H.length]? = some (.cells R1 .rw) := cD.get (List.getElem?_set_self (by omega)) (by simp)
      have hbD : D[b]? = some (.cells l .rw) := cD.get (by rw [List.getElem?_set_ne (by omega)]; exact c1.get hb (by simp)) (by simp)
      have f1 : firstC D 4 (c - i) (.slice (some (b, i * 4)) (c - i) (some (c - i)) 4) = some X := by
        rw [eX]
        simp [firstC, rowOf_rw hbD]
        omega
      have k2 := acopy_to (H := D) (b := H.length) (n := c - i) (o := (i + 1) * 4) (sz := 4) (cap := none) (s := .slice (some (b, i * 4)) (c - i) (some (c - i)) 4) (m := c - i) (by simp) (by omega) rfl
        (by rw [Nat.min_self]; exact f1) hX1 hX0 gD (by rw [hXl, hR1l]; omega) eR2
      have lD := cD.1
      rw [List.length_set] at lD
      simp [d36_11, w2, a1, a6, k2]
      refine ⟨H.length, none, [], l, .rw, rfl, ?_, fun x hx hn => ?_, .inr ⟨Nat.le_refl _, rfl⟩, ?_⟩
      · rw [List.getElem?_set_self (by omega), newR_eq, eR2, splice, hXl, show c * 4 - i * 4 = (c - i) * 4 by omega, ← eX]
        have q1 : R1.take ((i + 1) * 4) = l.take (i * 4) ++ lv := by
          rw [hR1, ← List.append_assoc, List.take_left' (by simp [hlv]; omega)]
        have q2 : R1.drop ((i + 1) * 4 + (c - i) * 4) = [] := List.drop_eq_nil_of_le (by omega)
        rw [q1, q2]
        simp
      · rw [List.getElem?_set_ne (by omega), cD.2 x (by simp; omega) (by simp), List.getElem?_set_ne (by omega)]
        exact c1.2 x hx (by simp)
      · rw [List.getElem?_set_ne (by omega)]
        exact hbD
end
end Go.Proofs.Ytobfodegdbfhdaa.T.InsA
end
section
/-! slices.Insert of one element: a contract. -/
set_option linter.unusedVariables false
set_option linter.unusedSimpArgs false
set_option maxHeartbeats 4000000
set_option maxRecDepth 100000
namespace Go.Proofs.Ytobfodegdbfhdaa.T.InsA
open Go Go.Ab
section
variable {H : AH} {bv k : Nat} {lv : List AV} {s : AV}
theorem ins_run0 (hv : H[bv]? = some (.cells lv .pl)) (hlv : lv.length = 4) (ho : lv.all AV.one = true) (hs : (∃ c s', s = .slice none 0 c s') ∨ (∃ b o l, s = .slice (some (b, o)) 0 (some 0) 4 ∧ rowOf H b = some l ∧ o ≤ l.length)) :
    callA apN (k + 1) (.func 36 [] []) [s, .int .i64 0, .slice (some (bv, 0)) 1 (some 1) 4] 0 H = some (.slice (some (H.length, 0)) 1 none 4, H ++ [.cells lv .rw]) := by
  refine Hx.eqn ?_
  rw [hx_go qf rfl, b36]
  have rv : rowOf H bv = some lv := by simp [rowOf, hv]
  have hf := first1 (cv := some 1) rv hlv
  rcases hs with ⟨c, s', rfl⟩ | ⟨b, o, l, rfl, hl, hol⟩
  · have key : aappend 0 H 4 32 (.slice none 0 c s') (.slice (some (bv, 0)) 1 (some 1) 4) = some (.slice (some (H.length, 0)) 1 none 4, H ++ [.cells lv .rw]) := by
      rw [aappend_eq, if_pos (by simp)]
      simp only [lenOf, Option.bind_some, hf, ho, Bool.true_eq_false, if_false]
      simp [aappendC, room]
    simp [aslice, abound, key]
  · have key : aappend 0 H 4 32 (.slice (some (b, o)) 0 (some 0) 4) (.slice (some (bv, 0)) 1 (some 1) 4) = some (.slice (some (H.length, 0)) 1 none 4, H ++ [.cells lv .rw]) := by
      rw [aappend_eq, if_pos (by simp)]
      simp only [lenOf, Option.bind_some, hf, ho, Bool.true_eq_false, if_false]
      simp [aappendC, room, hl, hol]
    simp [aslice, abound, key]
end
end Go.Proofs.Ytobfodegdbfhdaa.T.InsA
end
section
/-! slices.Insert of one element, of members, of accounts: contracts. -/
set_option linter.unusedVariables false
set_option linter.unusedSimpArgs false
set_option maxHeartbeats 4000000
set_option maxRecDepth 100000
namespace Go.Proofs.Ytobfodegdbfhdaa.T.Ins
open Go Go.Ab
theorem agreeN : Agree Try.prog apN := agree0.exts (fun _ => rfl) extP (fun f g h => by
  unfold extP at h
  split at h
  · rename_i hf
    subst hf
    cases h
    obtain ⟨i, d, z, ht⟩ := agree0.toTyAgree.get (t := 39) (ti := t39) (by kernel_rfl)
    exact overlaps_ok (tS := 22) (tR := 4) (e := 39) Try.func42 (by kernel_rfl) (by kernel_rfl) (by kernel_rfl) (by kernel_rfl) (by kernel_rfl) (fun w => run_sizeOf' ht w)
  · split at h
    · rename_i hf
      subst hf
      cases h
      obtain ⟨i, d, z, ht⟩ := agree0.toTyAgree.get (t := 25) (ti := t25) (by kernel_rfl)
      exact overlaps_ok (tS := 23) (tR := 4) (e := 25) Try.func44 (by kernel_rfl) (by kernel_rfl) (by kernel_rfl) (by kernel_rfl) (by kernel_rfl) (fun w => run_sizeOf' ht w)
    · cases h) true
theorem primOk : ∀ f g, insP f = some g → PrimOk Try.prog f g := fun f g h => by
  unfold insP at h
  split at h
  · rename_i hf
    subst hf
    cases h
    exact insX_ok (K := 5) agreeN rfl (by omega) (fun H s bv lv a b c d => InsM.ins_run0 a b c d) (fun H b n c i bv l lv a1 a2 a3 a4 a5 a6 a7 a8 a9 a10 => InsM.ins_run a1 a2 a3 a4 a5 a6 a7 a8 a9 a10)
  · split at h
    · rename_i hf
      subst hf
      cases h
      exact insX_ok (K := 5) agreeN rfl (by omega) (fun H s bv lv a b c d => InsA.ins_run0 a b c d) (fun H b n c i bv l lv a1 a2 a3 a4 a5 a6 a7 a8 a9 a10 => InsA.ins_run a1 a2 a3 a4 a5 a6 a7 a8 a9 a10)
    · cases h
end Go.Proofs.Ytobfodegdbfhdaa.T.Ins
namespace Go.Proofs.Ytobfodegdbfhdaa.T
open Go Go.Ab
theorem agreeP : Agree Try.prog apP := Ins.agreeN.prims _ Ins.primOk
end Go.Proofs.Ytobfodegdbfhdaa.T
end
section
/-! What is known: written by wip/ab/abgen.py (an own program). -/
set_option maxRecDepth 100000
namespace Go.Proofs.Ytobfodegdbfhdaa.T
open Go Go.Ab
theorem agree : Agree Try.prog ap := agreeP.set _ _
end Go.Proofs.Ytobfodegdbfhdaa.T
end
