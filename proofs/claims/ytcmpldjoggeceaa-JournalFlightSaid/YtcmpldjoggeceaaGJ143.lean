import Derived.Test.YtcmpldjoggeceaaGJ142
import Derived.Test.YtcmpldjoggeceaaProg
import Derived.KernelRfl
section
/-! The tables of the abstract reading. Written by wip/ab/abgen.py (an own program) out of the loaded program. -/
set_option linter.unusedVariables false
set_option maxRecDepth 100000
namespace Go.Proofs.Ytcmpldjoggeceaa.T
open Go Go.Ab
noncomputable def c3 : Code := bodyOf Try.f3
noncomputable def c4 : Code := bodyOf Try.f4
noncomputable def c5 : Code := bodyOf Try.f5
noncomputable def c6 : Code := bodyOf Try.f6
noncomputable def c7 : Code := bodyOf Try.f7
noncomputable def c8 : Code := bodyOf Try.f8
noncomputable def c9 : Code := bodyOf Try.f9
noncomputable def c10 : Code := bodyOf Try.f10
noncomputable def c11 : Code := bodyOf Try.f11
noncomputable def c12 : Code := bodyOf Try.f12
noncomputable def c13 : Code := bodyOf Try.f13
noncomputable def c14 : Code := bodyOf Try.f14
noncomputable def c15 : Code := bodyOf Try.f15
noncomputable def c16 : Code := bodyOf Try.f16
noncomputable def c17 : Code := bodyOf Try.f17
noncomputable def c18 : Code := bodyOf Try.f18
noncomputable def c19 : Code := bodyOf Try.f19
noncomputable def c20 : Code := bodyOf Try.f20
noncomputable def c21 : Code := bodyOf Try.f21
noncomputable def c22 : Code := bodyOf Try.f22
noncomputable def c23 : Code := bodyOf Try.f23
noncomputable def c24 : Code := bodyOf Try.f24
noncomputable def c25 : Code := bodyOf Try.f25
noncomputable def c26 : Code := bodyOf Try.f26
noncomputable def c27 : Code := bodyOf Try.f27
noncomputable def c28 : Code := bodyOf Try.f28
noncomputable def c29 : Code := bodyOf Try.f29
noncomputable def c30 : Code := bodyOf Try.f30
noncomputable def c31 : Code := bodyOf Try.f31
noncomputable def c32 : Code := bodyOf Try.f32
noncomputable def c33 : Code := bodyOf Try.f33
noncomputable def c34 : Code := bodyOf Try.f34
noncomputable def c35 : Code := bodyOf Try.f35
noncomputable def c36 : Code := bodyOf Try.f36
noncomputable def c37 : Code := bodyOf Try.f37
noncomputable def c38 : Code := bodyOf Try.f38
noncomputable def c39 : Code := bodyOf Try.f39
noncomputable def c40 : Code := bodyOf Try.f40
noncomputable def c41 : Code := bodyOf Try.f41
noncomputable def c42 : Code := bodyOf Try.f42
noncomputable def c43 : Code := bodyOf Try.f43
noncomputable def c44 : Code := bodyOf Try.f44
noncomputable def c45 : Code := bodyOf Try.f45
noncomputable def c46 : Code := bodyOf Try.f46
noncomputable def c47 : Code := bodyOf Try.f47
noncomputable def c48 : Code := bodyOf Try.f48
noncomputable def c49 : Code := bodyOf Try.f49
noncomputable def c50 : Code := bodyOf Try.f50
noncomputable def c51 : Code := bodyOf Try.f51
noncomputable def c52 : Code := bodyOf Try.f52
noncomputable def c53 : Code := bodyOf Try.f53
noncomputable def c54 : Code := bodyOf Try.f54
noncomputable def c55 : Code := bodyOf Try.f55
noncomputable def c56 : Code := bodyOf Try.f56
noncomputable def c57 : Code := bodyOf Try.f57
noncomputable def c58 : Code := bodyOf Try.f58
noncomputable def c59 : Code := bodyOf Try.f59
noncomputable def c60 : Code := bodyOf Try.f60
noncomputable def c61 : Code := bodyOf Try.f61
noncomputable def c62 : Code := bodyOf Try.f62
noncomputable def c63 : Code := bodyOf Try.f63
noncomputable def c64 : Code := bodyOf Try.f64
noncomputable def c65 : Code := bodyOf Try.f65
noncomputable def c66 : Code := bodyOf Try.f66
noncomputable def c67 : Code := bodyOf Try.f67
noncomputable def c68 : Code := bodyOf Try.f68
noncomputable def c69 : Code := bodyOf Try.f69
noncomputable def c70 : Code := bodyOf Try.f70
noncomputable def c71 : Code := bodyOf Try.f71
noncomputable def c72 : Code := bodyOf Try.f72
noncomputable def c73 : Code := bodyOf Try.f73
noncomputable def c74 : Code := bodyOf Try.f74
noncomputable def c75 : Code := bodyOf Try.f75
noncomputable def c76 : Code := bodyOf Try.f76
noncomputable def c77 : Code := bodyOf Try.f77
noncomputable def c78 : Code := bodyOf Try.f78
noncomputable def c79 : Code := bodyOf Try.f79
noncomputable def c80 : Code := bodyOf Try.f80
noncomputable def c81 : Code := bodyOf Try.f81
noncomputable def c82 : Code := bodyOf Try.f82
noncomputable def c83 : Code := bodyOf Try.f83
noncomputable def c84 : Code := bodyOf Try.f84
noncomputable def c85 : Code := bodyOf Try.f85
noncomputable def c86 : Code := bodyOf Try.f86
noncomputable def c87 : Code := bodyOf Try.f87
noncomputable def c88 : Code := bodyOf Try.f88
noncomputable def c89 : Code := bodyOf Try.f89
noncomputable def c90 : Code := bodyOf Try.f90
noncomputable def c91 : Code := bodyOf Try.f91
noncomputable def c92 : Code := bodyOf Try.f92
noncomputable def c93 : Code := bodyOf Try.f93
noncomputable def c94 : Code := bodyOf Try.f94
noncomputable def c95 : Code := bodyOf Try.f95
def t1 : TI := ⟨1, 8, [.nilFunc], .func⟩
def t2 : TI := ⟨1, 8, [.int .i64 0], .int .i64⟩
def t3 : TI := ⟨1, 8, [.int .i64 0], .int .i64⟩
def t4 : TI := ⟨1, 1, [.bool false], .bool⟩
def t5 : TI := ⟨1, 1, [.int .u8 0], .int .u8⟩
def t6 : TI := ⟨1, 1, [.int .u8 0], .int .u8⟩
def t7 : TI := ⟨4, 24, [.int .i64 0, .int .i64 0, .bool false, .int .u8 0], .struct [(0, 2), (1, 3), (2, 4), (3, 6)]⟩
def t9 : TI := ⟨1, 16, [.str ⟨#[]⟩], .string⟩
def t22 : TI := ⟨1, 24, [.slice none 0 (some 0) 0], .slice 70⟩
def t24 : TI := ⟨1, 8, [.ptr none], .ptr 76⟩
def t26 : TI := ⟨1, 24, [.slice none 0 (some 0) 0], .slice 78⟩
def t28 : TI := ⟨7, 72, [.slice none 0 (some 0) 0, .int .i64 0, .int .i64 0, .int .i64 0, .int .i64 0, .int .i64 0, .int .i64 0], .struct [(0, 26), (1, 2), (2, 3), (3, 2), (4, 2), (5, 2), (6, 2)]⟩
def t30 : TI := ⟨1, 24, [.slice none 0 (some 0) 0], .slice 38⟩
def t32 : TI := ⟨1, 8, [.ptr none], .ptr 81⟩
def t34 : TI := ⟨1, 8, [.int .i64 0], .int .i64⟩
def t38 : TI := ⟨8, 64, [.int .i64 0, .int .i64 0, .int .i64 0, .int .i64 0, .int .i64 0, .int .i64 0, .int .i64 0, .int .i64 0], .struct [(0, 3), (1, 3), (2, 3), (3, 3), (4, 3), (5, 2), (6, 2), (7, 2)]⟩
def t41 : TI := ⟨1, 24, [.slice none 0 (some 0) 0], .slice 5⟩
def t45 : TI := ⟨1, 8, [.nilFunc], .func⟩
def t50 : TI := ⟨1, 2, [.int .u16 0], .int .u16⟩
def t52 : TI := ⟨1, 24, [.slice none 0 (some 0) 0], .slice 3⟩
def t57 : TI := ⟨1, 8, [.ptr none], .ptr 94⟩
def t69 : TI := ⟨1, 24, [.slice none 0 (some 0) 0], .slice 72⟩
def t70 : TI := ⟨1, 8, [.int .u64 0], .int .u64⟩
def t72 : TI := ⟨5, 56, [.int .u8 0, .int .u64 0, .slice none 0 (some 0) 0, .int .i64 0, .int .i64 0], .struct [(0, 5), (1, 70), (2, 41), (3, 3), (4, 3)]⟩
def t76 : TI := ⟨2, 32, [.slice none 0 (some 0) 0, .int .i64 0], .struct [(0, 22), (1, 3)]⟩
def t78 : TI := ⟨4, 32, [.int .i64 0, .int .i64 0, .int .i64 0, .int .i64 0], .struct [(0, 3), (1, 2), (2, 2), (3, 2)]⟩
def t81 : TI := ⟨6, 56, [.slice none 0 (some 0) 0, .int .i64 0, .bool false, .bool false, .int .i64 0, .int .i64 0], .struct [(0, 41), (1, 3), (2, 4), (3, 4), (4, 3), (5, 3)]⟩
def t92 : TI := ⟨1, 8, [.nilFunc], .func⟩
def t94 : TI := ⟨6, 64, [.slice none 0 (some 0) 0, .int .i64 0, .bool false, .int .i64 0, .int .i64 0, .bool false], .struct [(0, 41), (1, 3), (2, 4), (3, 3), (4, 3), (5, 4)]⟩
def t97 : TI := ⟨1, 24, [.slice none 0 (some 0) 0], .slice 2⟩
def t98 : TI := ⟨1, 4, [.int .u32 0], .int .u32⟩
def t106 : TI := ⟨1, 24, [.slice none 0 (some 0) 0], .slice 41⟩
noncomputable def as3_0 : AC :=
  .seq (.region [⟨some 17, .assign (.tmp 68), 3, none, true⟩])
  (.region [⟨some 18, .alloc 38, 0, none, true⟩, ⟨none, .store 38 (.tmp 18) (.tmp 69), 0, none, true⟩])
noncomputable def bd3_0 : AC :=
  .block 3 (.seq (.seq (.region [⟨some 70, .load 3 (.tmp 16), 3, none, true⟩, ⟨some 71, .load 3 (.tmp 15), 3, none, true⟩, ⟨some 72, .binOp .eql 3 (.tmp 70) (.tmp 71) 3, 4, none, true⟩])
  (.cond (.tmp 72) (.exit 2) .skip))
  (.seq (.seq (.draw (drawOf T.c3 21) [0, 1, 2, 3, 4, 5, 6, 7, 8, 9, 10] [[], [], [0, 1], [0, 1, 2], [0, 1, 2, 3], [0, 1, 2, 3], [0, 1, 2, 3], [0, 1, 2, 3, 5, 6], [0, 1, 2, 3, 5, 6, 7], [0, 1, 2, 3, 4, 5, 6, 7, 8], [0, 1, 2, 3, 4, 5, 6, 7, 8, 9]])
  (.cond (.tmp 83) (.seq (.region [⟨none, .store 4 (.tmp 4) (.const (.bool false)), 0, none, true⟩])
  .ret) .skip))
  (.region [⟨some 84, .load 3 (.tmp 16), 3, none, true⟩, ⟨some 85, .binOp .add 3 (.tmp 84) (.const (.int .i64 1)) 3, 3, none, true⟩, ⟨none, .store 3 (.tmp 16) (.tmp 85), 0, none, true⟩])))
/-- novation/novationlaw9.JournalBack -/
noncomputable def b3 : AC :=
  .seq (.region [⟨some 4, .alloc 4, 0, none, true⟩])
  (.seq (.seq (.region [⟨some 19, .call (⟨.value (.func 8), #[], #[]⟩), 4, none, true⟩, ⟨some 20, .unOp .not 4 (.tmp 19), 4, none, true⟩])
  (.cond (.tmp 20) (.seq (.region [⟨none, .store 4 (.tmp 4) (.const (.bool false)), 0, none, true⟩])
  .ret) .skip))
  (.seq (.region [⟨some 21, .move (.tmp 0), 22, none, true⟩, ⟨some 22, .call (⟨.value (.func 9), #[.tmp 21], #[22]⟩), 24, none, true⟩, ⟨some 5, .assign (.tmp 22), 24, none, true⟩])
  (.seq (.region [⟨some 23, .move (.tmp 5), 24, none, true⟩, ⟨some 24, .call (⟨.value (.func 10), #[.tmp 23], #[24]⟩), 28, none, true⟩, ⟨some 6, .alloc 28, 0, none, true⟩, ⟨none, .store 28 (.tmp 6) (.tmp 24), 0, none, true⟩])
  (.seq (.region [⟨some 25, .move (.tmp 5), 24, none, true⟩, ⟨some 26, .load 28 (.tmp 6), 28, none, true⟩, ⟨some 27, .call (⟨.value (.func 11), #[.tmp 25, .tmp 26], #[24, 28]⟩), 30, none, true⟩, ⟨some 7, .alloc 30, 0, none, true⟩, ⟨none, .store 30 (.tmp 7) (.tmp 27), 0, none, true⟩])
  (.seq (.region [⟨some 28, .call (⟨.value (.func 12), #[.const (.int .i64 100000)], #[3]⟩), 32, none, true⟩, ⟨some 8, .assign (.tmp 28), 32, none, true⟩])
  (.seq (.seq (.region [⟨some 29, .move (.tmp 8), 32, none, true⟩, ⟨some 30, .binOp .eql 32 (.tmp 29) (.const (.pointer none)) 32, 4, none, true⟩, ⟨some 31, .move (.tmp 30), 4, none, true⟩, ⟨some 32, .move (.tmp 8), 32, some (some 31), false⟩, ⟨some 33, .load 28 (.tmp 6), 28, some (some 31), false⟩, ⟨some 34, .call (⟨.value (.func 13), #[.tmp 32, .tmp 33], #[32, 28]⟩), 34, some (some 31), false⟩, ⟨some 35, .binOp .neq 34 (.tmp 34) (.const (.int .i64 0)) 34, 4, some (some 31), false⟩, ⟨some 36, .pick (.tmp 31) (.const (.bool true)) (.tmp 35), 4, none, true⟩])
  (.cond (.tmp 36) (.seq (.region [⟨none, .store 4 (.tmp 4) (.const (.bool false)), 0, none, true⟩])
  .ret) .skip))
  (.seq (.seq (.region [⟨some 9, .assign (.const (.int .i64 0)), 3, none, true⟩])
  (.block 0 (.loop [false, true, false, false, true, false, true, true, true, true, false, false, false, false, false, false, false, true, true, false, false, false, false, false, false, false, false, false, false, false, false, false, false, false, false, false, false, false, false, false, false, false, false, false, false, false, false, false, false, false, false, false, false, false, false, false, false, false, false, false, false, false, false, false, false, false, false, false, true, true, false, false, false, false, false, false, false, false, false, false, false, false, false, false, false, false, false, false, false, false, false, false, false, false, false, false, false, false, false, false, false, false, false, false, false, false, false] (.seq (.seq (.region [⟨some 37, .move (.tmp 9), 3, none, true⟩, ⟨some 38, .load 30 (.tmp 7), 30, none, true⟩, ⟨some 39, .call (⟨.builtin .len, #[.tmp 38], #[30]⟩), 3, none, true⟩, ⟨some 40, .binOp .lss 3 (.tmp 37) (.tmp 39) 3, 4, none, true⟩])
  (.cond (.tmp 40) .skip (.exit 0)))
  (.seq (.block 1 (.seq (.region [⟨some 43, .move (.tmp 8), 32, none, true⟩, ⟨some 44, .load 30 (.tmp 7), 30, none, true⟩, ⟨some 45, .move (.tmp 9), 3, none, true⟩, ⟨some 46, .indexAddr 30 (.tmp 44) (.tmp 45), 0, none, true⟩, ⟨some 47, .load 38 (.tmp 46), 38, none, true⟩, ⟨some 48, .call (⟨.value (.func 14), #[.tmp 43, .tmp 47], #[32, 38]⟩), 34, none, true⟩, ⟨some 49, .binOp .neq 34 (.tmp 48) (.const (.int .i64 0)) 34, 4, none, true⟩])
  (.cond (.tmp 49) (.seq (.region [⟨none, .store 4 (.tmp 4) (.const (.bool false)), 0, none, true⟩])
  .ret) .skip)))
  (.region [⟨some 41, .move (.tmp 9), 3, none, true⟩, ⟨some 42, .binOp .add 3 (.tmp 41) (.const (.int .i64 1)) 3, 3, none, true⟩, ⟨some 9, .assign (.tmp 42), 3, none, true⟩]))))))
  (.seq (.region [⟨some 51, .move (.tmp 8), 32, none, true⟩, ⟨some 52, .call (⟨.value (.func 15), #[.tmp 51], #[32]⟩), 39, none, true⟩, ⟨some 50, .move (.tmp 52), 39, none, true⟩, ⟨some 53, .extract (.tmp 50) 0, 28, none, true⟩, ⟨some 54, .extract (.tmp 50) 1, 30, none, true⟩, ⟨some 55, .extract (.tmp 50) 2, 34, none, true⟩, ⟨some 10, .alloc 28, 0, none, true⟩, ⟨none, .store 28 (.tmp 10) (.tmp 53), 0, none, true⟩, ⟨some 11, .assign (.tmp 54), 30, none, true⟩, ⟨some 12, .assign (.tmp 55), 34, none, true⟩])
  (.seq (.region [⟨some 57, .move (.tmp 8), 32, none, true⟩, ⟨some 58, .call (⟨.value (.func 16), #[.tmp 57], #[32]⟩), 42, none, true⟩, ⟨some 56, .move (.tmp 58), 42, none, true⟩, ⟨some 59, .extract (.tmp 56) 0, 41, none, true⟩, ⟨some 60, .extract (.tmp 56) 1, 34, none, true⟩, ⟨some 13, .assign (.tmp 59), 41, none, true⟩, ⟨some 14, .assign (.tmp 60), 34, none, true⟩])
  (.seq (.region [⟨some 61, .move (.tmp 1), 5, none, true⟩, ⟨some 62, .convert 5 3 (.tmp 61), 3, none, true⟩, ⟨some 63, .load 30 (.tmp 7), 30, none, true⟩, ⟨some 64, .call (⟨.builtin .len, #[.tmp 63], #[30]⟩), 3, none, true⟩, ⟨some 65, .call (⟨.builtin .min, #[.tmp 62, .tmp 64], #[3, 3]⟩), 3, none, true⟩, ⟨some 15, .alloc 3, 0, none, true⟩, ⟨some 16, .alloc 3, 0, none, true⟩, ⟨none, .store 3 (.tmp 15) (.tmp 65), 0, none, true⟩, ⟨none, .store 3 (.tmp 16) (.const (.int .i64 0)), 0, none, true⟩])
  (.seq (.seq (.region [⟨some 66, .move (.tmp 13), 41, none, true⟩, ⟨some 67, .call (⟨.value (.func 17), #[.tmp 66], #[41]⟩), 45, none, true⟩])
  (.block 2 (.range (.tmp 67) #[68, 69] as3_0 bd3_0)))
  (.seq (.region [⟨some 86, .move (.tmp 12), 34, none, true⟩, ⟨some 87, .binOp .eql 34 (.tmp 86) (.const (.int .i64 0)) 34, 4, none, true⟩, ⟨some 88, .move (.tmp 87), 4, none, true⟩, ⟨some 89, .move (.tmp 14), 34, some (some 88), true⟩, ⟨some 90, .binOp .eql 34 (.tmp 89) (.const (.int .i64 0)) 34, 4, some (some 88), true⟩, ⟨some 91, .pick (.tmp 88) (.tmp 90) (.const (.bool false)), 4, none, true⟩, ⟨some 92, .move (.tmp 91), 4, none, true⟩, ⟨some 93, .load 28 (.tmp 10), 28, some (some 92), true⟩, ⟨some 94, .load 28 (.tmp 6), 28, some (some 92), true⟩, ⟨some 95, .call (⟨.value (.func 18), #[.tmp 93, .tmp 94], #[28, 28]⟩), 4, some (some 92), true⟩, ⟨some 96, .pick (.tmp 92) (.tmp 95) (.const (.bool false)), 4, none, true⟩, ⟨some 97, .move (.tmp 96), 4, none, true⟩, ⟨some 98, .move (.tmp 11), 30, some (some 97), true⟩, ⟨some 99, .load 30 (.tmp 7), 30, some (some 97), true⟩, ⟨some 100, .call (⟨.value (.func 19), #[.tmp 98, .tmp 99], #[30, 30]⟩), 4, some (some 97), true⟩, ⟨some 101, .pick (.tmp 97) (.tmp 100) (.const (.bool false)), 4, none, true⟩, ⟨some 102, .move (.tmp 101), 4, none, true⟩, ⟨some 103, .load 3 (.tmp 16), 3, some (some 102), true⟩, ⟨some 104, .load 3 (.tmp 15), 3, some (some 102), true⟩, ⟨some 105, .binOp .eql 3 (.tmp 103) (.tmp 104) 3, 4, some (some 102), true⟩, ⟨some 106, .pick (.tmp 102) (.tmp 105) (.const (.bool false)), 4, none, true⟩, ⟨none, .store 4 (.tmp 4) (.tmp 106), 0, none, true⟩])
  .ret))))))))))))
noncomputable def f3 : AFn := ⟨107, [.cell 4 4], b3⟩
/-- novation/novationlaw9.JournalTorn -/
noncomputable def b4 : AC :=
  .seq (.region [⟨some 4, .assign (.const (.bool false)), 4, none, true⟩])
  (.seq (.seq (.region [⟨some 19, .call (⟨.value (.func 8), #[], #[]⟩), 4, none, true⟩, ⟨some 20, .unOp .not 4 (.tmp 19), 4, none, true⟩])
  (.cond (.tmp 20) (.seq (.region [⟨some 4, .assign (.const (.bool false)), 4, none, true⟩])
  .ret) .skip))
  (.seq (.region [⟨some 21, .move (.tmp 0), 22, none, true⟩, ⟨some 22, .call (⟨.value (.func 9), #[.tmp 21], #[22]⟩), 24, none, true⟩, ⟨some 5, .assign (.tmp 22), 24, none, true⟩])
  (.seq (.region [⟨some 23, .move (.tmp 5), 24, none, true⟩, ⟨some 24, .call (⟨.value (.func 10), #[.tmp 23], #[24]⟩), 28, none, true⟩, ⟨some 6, .alloc 28, 0, none, true⟩, ⟨none, .store 28 (.tmp 6) (.tmp 24), 0, none, true⟩])
  (.seq (.region [⟨some 25, .move (.tmp 5), 24, none, true⟩, ⟨some 26, .load 28 (.tmp 6), 28, none, true⟩, ⟨some 27, .call (⟨.value (.func 11), #[.tmp 25, .tmp 26], #[24, 28]⟩), 30, none, true⟩, ⟨some 7, .assign (.tmp 27), 30, none, true⟩])
  (.seq (.region [⟨some 28, .call (⟨.value (.func 12), #[.const (.int .i64 100000)], #[3]⟩), 32, none, true⟩, ⟨some 8, .assign (.tmp 28), 32, none, true⟩])
  (.seq (.seq (.region [⟨some 29, .move (.tmp 8), 32, none, true⟩, ⟨some 30, .binOp .eql 32 (.tmp 29) (.const (.pointer none)) 32, 4, none, true⟩, ⟨some 31, .move (.tmp 30), 4, none, true⟩, ⟨some 32, .move (.tmp 8), 32, some (some 31), false⟩, ⟨some 33, .load 28 (.tmp 6), 28, some (some 31), false⟩, ⟨some 34, .call (⟨.value (.func 13), #[.tmp 32, .tmp 33], #[32, 28]⟩), 34, some (some 31), false⟩, ⟨some 35, .binOp .neq 34 (.tmp 34) (.const (.int .i64 0)) 34, 4, some (some 31), false⟩, ⟨some 36, .pick (.tmp 31) (.const (.bool true)) (.tmp 35), 4, none, true⟩])
  (.cond (.tmp 36) (.seq (.region [⟨some 4, .assign (.const (.bool false)), 4, none, true⟩])
  .ret) .skip))
  (.seq (.region [⟨some 37, .move (.tmp 8), 32, none, true⟩, ⟨some 38, .call (⟨.value (.func 20), #[.tmp 37], #[32]⟩), 3, none, true⟩, ⟨some 39, .buildSlice 52 1 #[(0, .tmp 38)], 52, none, true⟩, ⟨some 9, .assign (.tmp 39), 52, none, true⟩])
  (.seq (.seq (.region [⟨some 10, .assign (.const (.int .i64 0)), 3, none, true⟩])
  (.block 0 (.loop [false, true, false, false, false, false, true, true, true, true, true, false, false, false, false, false, false, false, false, false, false, false, false, false, false, false, false, false, false, false, false, false, false, false, false, false, false, false, false, false, false, false, false, false, false, false, false, false, false, false, false, false, false, false, false, false, false, false, false, false, false, false, false, false, false, false, false, false, false, false, false, false, false, false, false, false, false, false, false, false, false, false, false, false, false, false, false, false, false, false, false, false, false, false, false, false, false, false, false, false, false, false, false, false, false, false, false, false, false, false, false, false, false, false, false, false, false, false, false, false, false, false, false, false, false, false, false, false, false, false, false, false, false, false, false, false, false, false, false, false, false, false] (.seq (.seq (.region [⟨some 40, .move (.tmp 10), 3, none, true⟩, ⟨some 41, .move (.tmp 7), 30, none, true⟩, ⟨some 42, .call (⟨.builtin .len, #[.tmp 41], #[30]⟩), 3, none, true⟩, ⟨some 43, .binOp .lss 3 (.tmp 40) (.tmp 42) 3, 4, none, true⟩])
  (.cond (.tmp 43) .skip (.exit 0)))
  (.seq (.block 1 (.seq (.seq (.region [⟨some 46, .move (.tmp 8), 32, none, true⟩, ⟨some 47, .move (.tmp 7), 30, none, true⟩, ⟨some 48, .move (.tmp 10), 3, none, true⟩, ⟨some 49, .indexAddr 30 (.tmp 47) (.tmp 48), 0, none, true⟩, ⟨some 50, .load 38 (.tmp 49), 38, none, true⟩, ⟨some 51, .call (⟨.value (.func 14), #[.tmp 46, .tmp 50], #[32, 38]⟩), 34, none, true⟩, ⟨some 52, .binOp .neq 34 (.tmp 51) (.const (.int .i64 0)) 34, 4, none, true⟩])
  (.cond (.tmp 52) (.seq (.region [⟨some 4, .assign (.const (.bool false)), 4, none, true⟩])
  .ret) .skip))
  (.region [⟨some 53, .move (.tmp 9), 52, none, true⟩, ⟨some 54, .move (.tmp 8), 32, none, true⟩, ⟨some 55, .call (⟨.value (.func 20), #[.tmp 54], #[32]⟩), 3, none, true⟩, ⟨some 56, .buildSlice 52 1 #[(0, .tmp 55)], 52, none, true⟩, ⟨some 57, .call (⟨.builtin .append, #[.tmp 53, .tmp 56], #[52, 52]⟩), 52, none, true⟩, ⟨some 9, .assign (.tmp 57), 52, none, true⟩])))
  (.region [⟨some 44, .move (.tmp 10), 3, none, true⟩, ⟨some 45, .binOp .add 3 (.tmp 44) (.const (.int .i64 1)) 3, 3, none, true⟩, ⟨some 10, .assign (.tmp 45), 3, none, true⟩]))))))
  (.seq (.region [⟨some 58, .move (.tmp 1), 50, none, true⟩, ⟨some 59, .convert 50 3 (.tmp 58), 3, none, true⟩, ⟨some 60, .move (.tmp 8), 32, none, true⟩, ⟨some 61, .call (⟨.value (.func 20), #[.tmp 60], #[32]⟩), 3, none, true⟩, ⟨some 62, .binOp .add 3 (.tmp 61) (.const (.int .i64 1)) 3, 3, none, true⟩, ⟨some 63, .binOp .rem 3 (.tmp 59) (.tmp 62) 3, 3, none, true⟩, ⟨some 11, .assign (.tmp 63), 3, none, true⟩])
  (.seq (.seq (.region [⟨some 64, .move (.tmp 8), 32, none, true⟩, ⟨some 65, .move (.tmp 11), 3, none, true⟩, ⟨some 66, .call (⟨.value (.func 21), #[.tmp 64, .tmp 65], #[32, 3]⟩), 34, none, true⟩, ⟨some 67, .binOp .neq 34 (.tmp 66) (.const (.int .i64 0)) 34, 4, none, true⟩])
  (.cond (.tmp 67) (.seq (.region [⟨some 4, .assign (.const (.bool false)), 4, none, true⟩])
  .ret) .skip))
  (.seq (.region [⟨some 12, .assign (.const (.int .i64 (-1))), 3, none, true⟩])
  (.seq (.block 2 (.loop [false, false, false, false, false, false, true, true, true, true, false, true, true, false, false, false, false, false, false, false, false, false, false, false, false, false, false, false, false, false, false, false, false, false, false, false, false, false, false, false, false, false, false, false, false, false, false, false, false, false, false, false, false, false, false, false, false, false, false, false, false, false, false, false, false, false, false, false, false, false, false, false, false, false, false, false, false, false, false, false, false, false, false, false, false, false, false, false, false, false, false, false, false, false, false, false, false, false, false, false, false, false, false, false, false, false, false, false, false, false, false, false, false, false, false, false, false, false, false, false, false, false, false, false, false, false, false, false, false, false, false, false, false, false, false, false, false, false, false, false, false, false] (.seq (.seq (.region [⟨some 68, .move (.tmp 12), 3, none, true⟩, ⟨some 69, .binOp .add 3 (.tmp 68) (.const (.int .i64 1)) 3, 3, none, true⟩, ⟨some 70, .move (.tmp 9), 52, none, true⟩, ⟨some 71, .call (⟨.builtin .len, #[.tmp 70], #[52]⟩), 3, none, true⟩, ⟨some 72, .binOp .lss 3 (.tmp 69) (.tmp 71) 3, 4, none, true⟩, ⟨some 73, .move (.tmp 72), 4, none, true⟩, ⟨some 74, .move (.tmp 9), 52, some (some 73), true⟩, ⟨some 75, .move (.tmp 12), 3, some (some 73), true⟩, ⟨some 76, .binOp .add 3 (.tmp 75) (.const (.int .i64 1)) 3, 3, some (some 73), true⟩, ⟨some 77, .indexAddr 52 (.tmp 74) (.tmp 76), 0, some (some 73), true⟩, ⟨some 78, .load 3 (.tmp 77), 3, some (some 73), true⟩, ⟨some 79, .move (.tmp 11), 3, some (some 73), true⟩, ⟨some 80, .binOp .leq 3 (.tmp 78) (.tmp 79) 3, 4, some (some 73), true⟩, ⟨some 81, .pick (.tmp 73) (.tmp 80) (.const (.bool false)), 4, none, true⟩])
  (.cond (.tmp 81) .skip (.exit 2)))
  (.block 3 (.region [⟨some 82, .move (.tmp 12), 3, none, true⟩, ⟨some 83, .binOp .add 3 (.tmp 82) (.const (.int .i64 1)) 3, 3, none, true⟩, ⟨some 12, .assign (.tmp 83), 3, none, true⟩])))))
  (.seq (.region [⟨some 85, .move (.tmp 8), 32, none, true⟩, ⟨some 86, .call (⟨.value (.func 15), #[.tmp 85], #[32]⟩), 39, none, true⟩, ⟨some 84, .move (.tmp 86), 39, none, true⟩, ⟨some 87, .extract (.tmp 84) 0, 28, none, true⟩, ⟨some 88, .extract (.tmp 84) 1, 30, none, true⟩, ⟨some 89, .extract (.tmp 84) 2, 34, none, true⟩, ⟨some 13, .alloc 28, 0, none, true⟩, ⟨none, .store 28 (.tmp 13) (.tmp 87), 0, none, true⟩, ⟨some 14, .assign (.tmp 88), 30, none, true⟩, ⟨some 15, .assign (.tmp 89), 34, none, true⟩])
  (.seq (.seq (.region [⟨some 90, .move (.tmp 12), 3, none, true⟩, ⟨some 91, .binOp .lss 3 (.tmp 90) (.const (.int .i64 0)) 3, 4, none, true⟩])
  (.cond (.tmp 91) (.seq (.region [⟨some 92, .move (.tmp 15), 34, none, true⟩, ⟨some 93, .binOp .eql 34 (.tmp 92) (.const (.int .i64 3)) 34, 4, none, true⟩, ⟨some 94, .move (.tmp 93), 4, none, true⟩, ⟨some 95, .move (.tmp 8), 32, some (some 94), true⟩, ⟨some 96, .call (⟨.value (.func 20), #[.tmp 95], #[32]⟩), 3, some (some 94), true⟩, ⟨some 97, .binOp .eql 3 (.tmp 96) (.const (.int .i64 0)) 3, 4, some (some 94), true⟩, ⟨some 98, .pick (.tmp 94) (.tmp 97) (.const (.bool false)), 4, none, true⟩, ⟨some 4, .assign (.tmp 98), 4, none, true⟩])
  .ret) .skip))
  (.seq (.region [⟨some 100, .move (.tmp 8), 32, none, true⟩, ⟨some 101, .call (⟨.value (.func 15), #[.tmp 100], #[32]⟩), 39, none, true⟩, ⟨some 99, .move (.tmp 101), 39, none, true⟩, ⟨some 102, .extract (.tmp 99) 0, 28, none, true⟩, ⟨some 103, .extract (.tmp 99) 1, 30, none, true⟩, ⟨some 104, .extract (.tmp 99) 2, 34, none, true⟩, ⟨some 16, .alloc 28, 0, none, true⟩, ⟨none, .store 28 (.tmp 16) (.tmp 102), 0, none, true⟩, ⟨some 17, .assign (.tmp 103), 30, none, true⟩, ⟨some 18, .assign (.tmp 104), 34, none, true⟩])
  (.seq (.draw (drawOf T.c4 26) [0, 1, 2, 3, 4, 5, 6, 7, 8, 9, 10, 11, 12, 13, 14, 15, 16, 17, 18, 19, 20, 21, 22, 23, 24, 25, 26, 27, 28, 29, 31, 32, 33, 34, 30, 35, 36, 37] [[], [0], [0, 1], [0, 1, 2], [0, 1, 2, 3], [0, 1, 2, 3, 4], [0, 1, 2, 3, 4, 5], [0, 1, 2, 3, 4, 5, 6], [0, 1, 2, 3, 4, 5, 6], [0, 1, 2, 3, 4, 5, 6, 7, 8], [0, 1, 2, 3, 4, 5, 6, 7, 8, 9], [0, 1, 2, 3, 4, 5, 6, 7, 8, 9, 10], [0, 1, 2, 3, 4, 5, 6, 7, 8, 9, 10, 11], [0, 1, 2, 3, 4, 5, 6, 7, 8, 9, 10, 11], [0, 1, 2, 3, 4, 5, 6, 7, 8, 9, 10, 11, 12, 13], [0, 1, 2, 3, 4, 5, 6, 7, 8, 9, 10, 11, 12, 13, 14], [0, 1, 2, 3, 4, 5, 6, 7, 8, 9, 10, 11, 12, 13, 14, 15], [0, 1, 2, 3, 4, 5, 6, 7, 8, 9, 10, 11, 12, 13, 14, 15, 16], [0, 1, 2, 3, 4, 5, 6, 7, 8, 9, 10, 11, 12, 13, 14, 15, 16], [0, 1, 2, 3, 4, 5, 6, 7, 8, 9, 10, 11, 12, 13, 14, 15, 16], [0, 1, 2, 3, 4, 5, 6, 7, 8, 9, 10, 11, 12, 13, 14, 15, 16, 18, 19], [0, 1, 2, 3, 4, 5, 6, 7, 8, 9, 10, 11, 12, 13, 14, 15, 16, 17, 18, 19, 20], [0, 1, 2, 3, 4, 5, 6, 7, 8, 9, 10, 11, 12, 13, 14, 15, 16, 17, 18, 19, 20, 21], [0, 1, 2, 3, 4, 5, 6, 7, 8, 9, 10, 11, 12, 13, 14, 15, 16, 17, 18, 19, 20, 21, 22], [0, 1, 2, 3, 4, 5, 6, 7, 8, 9, 10, 11, 12, 13, 14, 15, 16, 17, 18, 19, 20, 21, 22, 23], [0, 1, 2, 3, 4, 5, 6, 7, 8, 9, 10, 11, 12, 13, 14, 15, 16, 17, 18, 19, 20, 21, 22, 23], [0, 1, 2, 3, 4, 5, 6, 7, 8, 9, 10, 11, 12, 13, 14, 15, 16, 17, 18, 19, 20, 21, 22, 23, 24, 25], [0, 1, 2, 3, 4, 5, 6, 7, 8, 9, 10, 11, 12, 13, 14, 15, 16, 17, 18, 19, 20, 21, 22, 23, 24, 25, 26], [0, 1, 2, 3, 4, 5, 6, 7, 8, 9, 10, 11, 12, 13, 14, 15, 16, 17, 18, 19, 20, 21, 22, 23, 24, 25, 26, 27], [0, 1, 2, 3, 4, 5, 6, 7, 8, 9, 10, 11, 12, 13, 14, 15, 16, 17, 18, 19, 20, 21, 22, 23, 24, 25, 26, 27, 28], [0, 1, 2, 3, 4, 5, 6, 7, 8, 9, 10, 11, 12, 13, 14, 15, 16, 17, 18, 19, 20, 21, 22, 23, 24, 25, 26, 27, 28, 29], [0, 1, 2, 3, 4, 5, 6, 7, 8, 9, 10, 11, 12, 13, 14, 15, 16, 17, 18, 19, 20, 21, 22, 23, 24, 25, 26, 27, 28], [0, 1, 2, 3, 4, 5, 6, 7, 8, 9, 10, 11, 12, 13, 14, 15, 16, 17, 18, 19, 20, 21, 22, 23, 24, 25, 26, 27, 28], [0, 1, 2, 3, 4, 5, 6, 7, 8, 9, 10, 11, 12, 13, 14, 15, 16, 17, 18, 19, 20, 21, 22, 23, 24, 25, 26, 27, 28, 31, 32], [0, 1, 2, 3, 4, 5, 6, 7, 8, 9, 10, 11, 12, 13, 14, 15, 16, 17, 18, 19, 20, 21, 22, 23, 24, 25, 26, 27, 28, 31, 32, 33], [0, 1, 2, 3, 4, 5, 6, 7, 8, 9, 10, 11, 12, 13, 14, 15, 16, 17, 18, 19, 20, 21, 22, 23, 24, 25, 26, 27, 28, 29, 30, 31, 32, 33, 34], [0, 1, 2, 3, 4, 5, 6, 7, 8, 9, 10, 11, 12, 13, 14, 15, 16, 17, 18, 19, 20, 21, 22, 23, 24, 25, 26, 27, 28, 29, 30, 31, 32, 33, 34, 35], [0, 1, 2, 3, 4, 5, 6, 7, 8, 9, 10, 11, 12, 13, 14, 15, 16, 17, 18, 19, 20, 21, 22, 23, 24, 25, 26, 27, 28, 29, 30, 31, 32, 33, 34, 35, 36]])
  .ret))))))))))))))))
noncomputable def f4 : AFn := ⟨142, [.tmp 4], b4⟩
/-- novation/novationlaw9.JournalFlight -/
noncomputable def b5 : AC :=
  .seq (.region [⟨some 6, .assign (.const (.bool false)), 4, none, true⟩])
  (.seq (.seq (.region [⟨some 16, .call (⟨.value (.func 8), #[], #[]⟩), 4, none, true⟩, ⟨some 17, .unOp .not 4 (.tmp 16), 4, none, true⟩])
  (.cond (.tmp 17) (.seq (.region [⟨some 6, .assign (.const (.bool false)), 4, none, true⟩])
  .ret) .skip))
  (.seq (.region [⟨some 18, .move (.tmp 0), 22, none, true⟩, ⟨some 19, .call (⟨.value (.func 9), #[.tmp 18], #[22]⟩), 24, none, true⟩, ⟨some 7, .assign (.tmp 19), 24, none, true⟩])
  (.seq (.region [⟨some 20, .move (.tmp 7), 24, none, true⟩, ⟨some 21, .call (⟨.value (.func 10), #[.tmp 20], #[24]⟩), 28, none, true⟩, ⟨some 8, .alloc 28, 0, none, true⟩, ⟨none, .store 28 (.tmp 8) (.tmp 21), 0, none, true⟩])
  (.seq (.region [⟨some 22, .move (.tmp 7), 24, none, true⟩, ⟨some 23, .load 28 (.tmp 8), 28, none, true⟩, ⟨some 24, .call (⟨.value (.func 11), #[.tmp 22, .tmp 23], #[24, 28]⟩), 30, none, true⟩, ⟨some 9, .assign (.tmp 24), 30, none, true⟩])
  (.seq (.region [⟨some 25, .call (⟨.value (.func 12), #[.const (.int .i64 100000)], #[3]⟩), 32, none, true⟩, ⟨some 10, .assign (.tmp 25), 32, none, true⟩])
  (.seq (.seq (.region [⟨some 26, .move (.tmp 10), 32, none, true⟩, ⟨some 27, .binOp .eql 32 (.tmp 26) (.const (.pointer none)) 32, 4, none, true⟩, ⟨some 28, .move (.tmp 27), 4, none, true⟩, ⟨some 29, .move (.tmp 10), 32, some (some 28), false⟩, ⟨some 30, .load 28 (.tmp 8), 28, some (some 28), false⟩, ⟨some 31, .call (⟨.value (.func 13), #[.tmp 29, .tmp 30], #[32, 28]⟩), 34, some (some 28), false⟩, ⟨some 32, .binOp .neq 34 (.tmp 31) (.const (.int .i64 0)) 34, 4, some (some 28), false⟩, ⟨some 33, .pick (.tmp 28) (.const (.bool true)) (.tmp 32), 4, none, true⟩])
  (.cond (.tmp 33) (.seq (.region [⟨some 6, .assign (.const (.bool false)), 4, none, true⟩])
  .ret) .skip))
  (.seq (.region [⟨some 34, .move (.tmp 10), 32, none, true⟩, ⟨some 35, .move (.tmp 1), 5, none, true⟩, ⟨some 36, .binOp .rem 5 (.tmp 35) (.const (.int .u8 16)) 5, 5, none, true⟩, ⟨some 37, .convert 5 3 (.tmp 36), 3, none, true⟩, ⟨some 38, .move (.tmp 2), 5, none, true⟩, ⟨some 39, .convert 5 3 (.tmp 38), 3, none, true⟩, ⟨some 40, .call (⟨.value (.func 22), #[.tmp 34, .tmp 37, .tmp 39], #[32, 3, 3]⟩), 0, none, true⟩])
  (.seq (.region [⟨some 11, .assign (.const (.int .i64 0)), 3, none, true⟩])
  (.seq (.block 0 (.loop [false, false, false, false, false, false, false, false, false, true, true, true, false, false, false, false, false, false, false, false, false, false, false, false, false, false, false, false, false, false, false, false, false, false, false, false, false, false, false, false, false, false, false, false, false, false, false, false, false, false, false, false, false, false, false, false, false, false, false, false, false, false, false, false, false, false, false, false, false, false, false, false, false, false, false, false, false, false, false, false, false, false, false, false, false, false, false, false, false, false, false, false, false, false] (.seq (.seq (.region [⟨some 41, .move (.tmp 11), 3, none, true⟩, ⟨some 42, .move (.tmp 9), 30, none, true⟩, ⟨some 43, .call (⟨.builtin .len, #[.tmp 42], #[30]⟩), 3, none, true⟩, ⟨some 44, .binOp .lss 3 (.tmp 41) (.tmp 43) 3, 4, none, true⟩, ⟨some 45, .move (.tmp 44), 4, none, true⟩, ⟨some 46, .move (.tmp 10), 32, some (some 45), true⟩, ⟨some 47, .move (.tmp 9), 30, some (some 45), true⟩, ⟨some 48, .move (.tmp 11), 3, some (some 45), true⟩, ⟨some 49, .indexAddr 30 (.tmp 47) (.tmp 48), 0, some (some 45), true⟩, ⟨some 50, .load 38 (.tmp 49), 38, some (some 45), true⟩, ⟨some 51, .call (⟨.value (.func 14), #[.tmp 46, .tmp 50], #[32, 38]⟩), 34, some (some 45), true⟩, ⟨some 52, .binOp .eql 34 (.tmp 51) (.const (.int .i64 0)) 34, 4, some (some 45), true⟩, ⟨some 53, .pick (.tmp 45) (.tmp 52) (.const (.bool false)), 4, none, true⟩])
  (.cond (.tmp 53) .skip (.exit 0)))
  (.block 1 (.region [⟨some 54, .move (.tmp 11), 3, none, true⟩, ⟨some 55, .binOp .add 3 (.tmp 54) (.const (.int .i64 1)) 3, 3, none, true⟩, ⟨some 11, .assign (.tmp 55), 3, none, true⟩])))))
  (.seq (.region [⟨some 56, .move (.tmp 10), 32, none, true⟩, ⟨some 57, .call (⟨.value (.func 23), #[.tmp 56], #[32]⟩), 4, none, true⟩, ⟨some 12, .assign (.tmp 57), 4, none, true⟩])
  (.seq (.region [⟨some 58, .move (.tmp 10), 32, none, true⟩, ⟨some 59, .call (⟨.value (.func 24), #[.tmp 58], #[32]⟩), 0, none, true⟩])
  (.seq (.region [⟨some 61, .move (.tmp 10), 32, none, true⟩, ⟨some 62, .call (⟨.value (.func 15), #[.tmp 61], #[32]⟩), 39, none, true⟩, ⟨some 60, .move (.tmp 62), 39, none, true⟩, ⟨some 63, .extract (.tmp 60) 0, 28, none, true⟩, ⟨some 64, .extract (.tmp 60) 1, 30, none, true⟩, ⟨some 65, .extract (.tmp 60) 2, 34, none, true⟩, ⟨some 13, .alloc 28, 0, none, true⟩, ⟨none, .store 28 (.tmp 13) (.tmp 63), 0, none, true⟩, ⟨some 14, .assign (.tmp 64), 30, none, true⟩, ⟨some 15, .assign (.tmp 65), 34, none, true⟩])
  (.seq (.region [⟨some 66, .move (.tmp 15), 34, none, true⟩, ⟨some 67, .binOp .eql 34 (.tmp 66) (.const (.int .i64 0)) 34, 4, none, true⟩, ⟨some 68, .move (.tmp 67), 4, none, true⟩, ⟨some 69, .move (.tmp 12), 4, some (some 68), true⟩, ⟨some 70, .move (.tmp 11), 3, some (some 68), true⟩, ⟨some 71, .move (.tmp 9), 30, some (some 68), true⟩, ⟨some 72, .call (⟨.builtin .len, #[.tmp 71], #[30]⟩), 3, some (some 68), true⟩, ⟨some 73, .binOp .lss 3 (.tmp 70) (.tmp 72) 3, 4, some (some 68), true⟩, ⟨some 74, .binOp .eql 4 (.tmp 69) (.tmp 73) 4, 4, some (some 68), true⟩, ⟨some 75, .pick (.tmp 68) (.tmp 74) (.const (.bool false)), 4, none, true⟩, ⟨some 76, .move (.tmp 75), 4, none, true⟩, ⟨some 77, .move (.tmp 14), 30, some (some 76), true⟩, ⟨some 78, .move (.tmp 9), 30, some (some 76), true⟩, ⟨some 79, .move (.tmp 11), 3, some (some 76), true⟩, ⟨some 80, .slice 30 (.tmp 78) none (some (.tmp 79)) none, 30, some (some 76), true⟩, ⟨some 81, .call (⟨.value (.func 19), #[.tmp 77, .tmp 80], #[30, 30]⟩), 4, some (some 76), true⟩, ⟨some 82, .move (.tmp 81), 4, some (some 76), true⟩, ⟨some 83, .move (.tmp 12), 4, some (some 82), false⟩, ⟨some 84, .move (.tmp 83), 4, some (some 82), false⟩, ⟨some 85, .move (.tmp 14), 30, some (some 84), true⟩, ⟨some 86, .move (.tmp 9), 30, some (some 84), true⟩, ⟨some 87, .move (.tmp 11), 3, some (some 84), true⟩, ⟨some 88, .binOp .add 3 (.tmp 87) (.const (.int .i64 1)) 3, 3, some (some 84), true⟩, ⟨some 89, .slice 30 (.tmp 86) none (some (.tmp 88)) none, 30, some (some 84), true⟩, ⟨some 90, .call (⟨.value (.func 19), #[.tmp 85, .tmp 89], #[30, 30]⟩), 4, some (some 84), true⟩, ⟨some 91, .pick (.tmp 84) (.tmp 90) (.const (.bool false)), 4, some (some 82), false⟩, ⟨some 92, .pick (.tmp 82) (.const (.bool true)) (.tmp 91), 4, some (some 76), true⟩, ⟨some 93, .pick (.tmp 76) (.tmp 92) (.const (.bool false)), 4, none, true⟩, ⟨some 6, .assign (.tmp 93), 4, none, true⟩])
  .ret)))))))))))))
noncomputable def f5 : AFn := ⟨94, [.tmp 6], b5⟩
/-- novation/novationlaw9.JournalOpens -/
noncomputable def b6 : AC :=
  .seq (.region [⟨some 6, .assign (.const (.bool false)), 4, none, true⟩])
  (.seq (.seq (.region [⟨some 29, .call (⟨.value (.func 8), #[], #[]⟩), 4, none, true⟩, ⟨some 30, .unOp .not 4 (.tmp 29), 4, none, true⟩])
  (.cond (.tmp 30) (.seq (.region [⟨some 6, .assign (.const (.bool false)), 4, none, true⟩])
  .ret) .skip))
  (.seq (.seq (.region [⟨some 31, .move (.tmp 0), 41, none, true⟩, ⟨some 32, .call (⟨.builtin .len, #[.tmp 31], #[41]⟩), 3, none, true⟩, ⟨some 33, .binOp .gtr 3 (.tmp 32) (.const (.int .i64 400)) 3, 4, none, true⟩])
  (.cond (.tmp 33) (.seq (.region [⟨some 6, .assign (.const (.bool true)), 4, none, true⟩])
  .ret) .skip))
  (.seq (.region [⟨some 34, .move (.tmp 1), 22, none, true⟩, ⟨some 35, .call (⟨.value (.func 9), #[.tmp 34], #[22]⟩), 24, none, true⟩, ⟨some 7, .assign (.tmp 35), 24, none, true⟩])
  (.seq (.region [⟨some 36, .move (.tmp 7), 24, none, true⟩, ⟨some 37, .call (⟨.value (.func 10), #[.tmp 36], #[24]⟩), 28, none, true⟩, ⟨some 8, .alloc 28, 0, none, true⟩, ⟨none, .store 28 (.tmp 8) (.tmp 37), 0, none, true⟩])
  (.seq (.region [⟨some 38, .call (⟨.value (.func 12), #[.const (.int .i64 100000)], #[3]⟩), 32, none, true⟩, ⟨some 39, .call (⟨.value (.func 25), #[.const (.int .i64 100000)], #[3]⟩), 57, none, true⟩, ⟨some 9, .assign (.tmp 38), 32, none, true⟩, ⟨some 10, .assign (.tmp 39), 57, none, true⟩])
  (.seq (.seq (.region [⟨some 40, .move (.tmp 9), 32, none, true⟩, ⟨some 41, .binOp .eql 32 (.tmp 40) (.const (.pointer none)) 32, 4, none, true⟩])
  (.cond (.tmp 41) (.seq (.region [⟨some 6, .assign (.const (.bool false)), 4, none, true⟩])
  .ret) .skip))
  (.seq (.seq (.region [⟨some 42, .move (.tmp 7), 24, none, true⟩, ⟨some 43, .call (⟨.value (.func 26), #[.tmp 42, .const (.int .i64 2)], #[24, 3]⟩), 4, none, true⟩])
  (.cond (.tmp 43) (.seq (.region [⟨some 11, .assign (.const (.slice none 0 0)), 41, none, true⟩])
  (.seq (.region [⟨some 45, .load 28 (.tmp 8), 28, none, true⟩, ⟨some 46, .call (⟨.value (.func 27), #[.tmp 45], #[28]⟩), 42, none, true⟩, ⟨some 44, .move (.tmp 46), 42, none, true⟩, ⟨some 47, .extract (.tmp 44) 0, 41, none, true⟩, ⟨some 48, .extract (.tmp 44) 1, 34, none, true⟩, ⟨some 12, .assign (.tmp 47), 41, none, true⟩, ⟨some 13, .assign (.tmp 48), 34, none, true⟩])
  (.seq (.region [⟨some 50, .move (.tmp 12), 41, none, true⟩, ⟨some 51, .call (⟨.value (.func 28), #[.tmp 50], #[41]⟩), 42, none, true⟩, ⟨some 49, .move (.tmp 51), 42, none, true⟩, ⟨some 52, .extract (.tmp 49) 0, 41, none, true⟩, ⟨some 53, .extract (.tmp 49) 1, 34, none, true⟩, ⟨some 14, .assign (.tmp 52), 41, none, true⟩, ⟨some 15, .assign (.tmp 53), 34, none, true⟩])
  (.seq (.region [⟨some 54, .move (.tmp 11), 41, none, true⟩, ⟨some 55, .move (.tmp 14), 41, none, true⟩, ⟨some 56, .call (⟨.builtin .append, #[.tmp 54, .tmp 55], #[41, 41]⟩), 41, none, true⟩, ⟨some 11, .assign (.tmp 56), 41, none, true⟩])
  (.seq (.seq (.region [⟨some 57, .move (.tmp 7), 24, none, true⟩, ⟨some 58, .call (⟨.value (.func 29), #[.tmp 57, .const (.int .i64 6)], #[24, 3]⟩), 3, none, true⟩, ⟨some 16, .assign (.tmp 58), 3, none, true⟩])
  (.block 0 (.loop [true, false, true, false, false, false, false, true, true, true, true, true, false, false, false, false, true, false, false, false, false, false, false, false, false, false, false, false, false, false, false, false, false, false, false, false, false, false, false, false, false, false, false, false, false, false, false, false, false, false, false, false, false, false, false, false, false, false, false, false, false, false, false, false, false, false, false, false, false, false, false, false, false, false, false, false, false, false, false, false, false, false, false, false, false, false, false, false, false, false, false, false, false, false, false, false, false, false, false, false, false, false, false, false, false, false, false, false, false, false, false, false, false, false, false, false, false, false, false, false, false, false, false, false, false, false, false, false, false, false, false, false, false, false, false, false, false, false] (.seq (.seq (.region [⟨some 59, .move (.tmp 16), 3, none, true⟩, ⟨some 60, .binOp .gtr 3 (.tmp 59) (.const (.int .i64 0)) 3, 4, none, true⟩])
  (.cond (.tmp 60) .skip (.exit 0)))
  (.seq (.block 1 (.seq (.region [⟨some 64, .move (.tmp 7), 24, none, true⟩, ⟨some 65, .load 28 (.tmp 8), 28, none, true⟩, ⟨some 66, .call (⟨.value (.func 31), #[.tmp 64, .tmp 65], #[24, 28]⟩), 38, none, true⟩, ⟨some 67, .call (⟨.value (.func 30), #[.tmp 66], #[38]⟩), 42, none, true⟩, ⟨some 63, .move (.tmp 67), 42, none, true⟩, ⟨some 68, .extract (.tmp 63) 0, 41, none, true⟩, ⟨some 69, .extract (.tmp 63) 1, 34, none, true⟩, ⟨some 17, .assign (.tmp 68), 41, none, true⟩, ⟨some 18, .assign (.tmp 69), 34, none, true⟩])
  (.seq (.region [⟨some 71, .move (.tmp 17), 41, none, true⟩, ⟨some 72, .call (⟨.value (.func 28), #[.tmp 71], #[41]⟩), 42, none, true⟩, ⟨some 70, .move (.tmp 72), 42, none, true⟩, ⟨some 73, .extract (.tmp 70) 0, 41, none, true⟩, ⟨some 74, .extract (.tmp 70) 1, 34, none, true⟩, ⟨some 19, .assign (.tmp 73), 41, none, true⟩, ⟨some 20, .assign (.tmp 74), 34, none, true⟩])
  (.region [⟨some 75, .move (.tmp 11), 41, none, true⟩, ⟨some 76, .move (.tmp 19), 41, none, true⟩, ⟨some 77, .call (⟨.builtin .append, #[.tmp 75, .tmp 76], #[41, 41]⟩), 41, none, true⟩, ⟨some 11, .assign (.tmp 77), 41, none, true⟩]))))
  (.region [⟨some 61, .move (.tmp 16), 3, none, true⟩, ⟨some 62, .binOp .sub 3 (.tmp 61) (.const (.int .i64 1)) 3, 3, none, true⟩, ⟨some 16, .assign (.tmp 62), 3, none, true⟩]))))))
  (.seq (.seq (.region [⟨some 78, .move (.tmp 7), 24, none, true⟩, ⟨some 79, .call (⟨.value (.func 26), #[.tmp 78, .const (.int .i64 3)], #[24, 3]⟩), 4, none, true⟩])
  (.cond (.tmp 79) (.seq (.region [⟨some 81, .move (.tmp 0), 41, none, true⟩, ⟨some 82, .call (⟨.value (.func 28), #[.tmp 81], #[41]⟩), 42, none, true⟩, ⟨some 80, .move (.tmp 82), 42, none, true⟩, ⟨some 83, .extract (.tmp 80) 0, 41, none, true⟩, ⟨some 84, .extract (.tmp 80) 1, 34, none, true⟩, ⟨some 21, .assign (.tmp 83), 41, none, true⟩, ⟨some 22, .assign (.tmp 84), 34, none, true⟩])
  (.region [⟨some 85, .move (.tmp 11), 41, none, true⟩, ⟨some 86, .move (.tmp 21), 41, none, true⟩, ⟨some 87, .call (⟨.builtin .append, #[.tmp 85, .tmp 86], #[41, 41]⟩), 41, none, true⟩, ⟨some 11, .assign (.tmp 87), 41, none, true⟩])) .skip))
  (.region [⟨some 88, .move (.tmp 11), 41, none, true⟩, ⟨some 89, .move (.tmp 2), 50, none, true⟩, ⟨some 90, .convert 50 3 (.tmp 89), 3, none, true⟩, ⟨some 91, .move (.tmp 11), 41, none, true⟩, ⟨some 92, .call (⟨.builtin .len, #[.tmp 91], #[41]⟩), 3, none, true⟩, ⟨some 93, .binOp .add 3 (.tmp 92) (.const (.int .i64 1)) 3, 3, none, true⟩, ⟨some 94, .binOp .rem 3 (.tmp 90) (.tmp 93) 3, 3, none, true⟩, ⟨some 95, .slice 41 (.tmp 88) none (some (.tmp 94)) none, 41, none, true⟩, ⟨some 96, .move (.tmp 0), 41, none, true⟩, ⟨some 97, .call (⟨.builtin .append, #[.tmp 95, .tmp 96], #[41, 41]⟩), 41, none, true⟩, ⟨some 0, .assign (.tmp 97), 41, none, true⟩]))))))) .skip))
  (.seq (.seq (.region [⟨some 98, .move (.tmp 9), 32, none, true⟩, ⟨some 99, .move (.tmp 0), 41, none, true⟩, ⟨some 100, .call (⟨.value (.func 32), #[.tmp 98, .tmp 99], #[32, 41]⟩), 34, none, true⟩, ⟨some 101, .binOp .neq 34 (.tmp 100) (.const (.int .i64 0)) 34, 4, none, true⟩, ⟨some 102, .move (.tmp 101), 4, none, true⟩, ⟨some 103, .move (.tmp 10), 57, some (some 102), false⟩, ⟨some 104, .move (.tmp 0), 41, some (some 102), false⟩, ⟨some 105, .call (⟨.value (.func 33), #[.tmp 103, .tmp 104], #[57, 41]⟩), 34, some (some 102), false⟩, ⟨some 106, .binOp .neq 34 (.tmp 105) (.const (.int .i64 0)) 34, 4, some (some 102), false⟩, ⟨some 107, .pick (.tmp 102) (.const (.bool true)) (.tmp 106), 4, none, true⟩])
  (.cond (.tmp 107) (.seq (.region [⟨some 6, .assign (.const (.bool false)), 4, none, true⟩])
  .ret) .skip))
  (.seq (.region [⟨some 109, .move (.tmp 9), 32, none, true⟩, ⟨some 110, .call (⟨.value (.func 15), #[.tmp 109], #[32]⟩), 39, none, true⟩, ⟨some 108, .move (.tmp 110), 39, none, true⟩, ⟨some 111, .extract (.tmp 108) 0, 28, none, true⟩, ⟨some 112, .extract (.tmp 108) 1, 30, none, true⟩, ⟨some 113, .extract (.tmp 108) 2, 34, none, true⟩, ⟨some 23, .alloc 28, 0, none, true⟩, ⟨none, .store 28 (.tmp 23) (.tmp 111), 0, none, true⟩, ⟨some 24, .assign (.tmp 112), 30, none, true⟩, ⟨some 25, .assign (.tmp 113), 34, none, true⟩])
  (.seq (.region [⟨some 115, .move (.tmp 10), 57, none, true⟩, ⟨some 116, .call (⟨.value (.func 34), #[.tmp 115], #[57]⟩), 39, none, true⟩, ⟨some 114, .move (.tmp 116), 39, none, true⟩, ⟨some 117, .extract (.tmp 114) 0, 28, none, true⟩, ⟨some 118, .extract (.tmp 114) 1, 30, none, true⟩, ⟨some 119, .extract (.tmp 114) 2, 34, none, true⟩, ⟨some 26, .alloc 28, 0, none, true⟩, ⟨none, .store 28 (.tmp 26) (.tmp 117), 0, none, true⟩, ⟨some 27, .assign (.tmp 118), 30, none, true⟩, ⟨some 28, .assign (.tmp 119), 34, none, true⟩])
  (.seq (.region [⟨some 120, .move (.tmp 25), 34, none, true⟩, ⟨some 121, .move (.tmp 28), 34, none, true⟩, ⟨some 122, .binOp .eql 34 (.tmp 120) (.tmp 121) 34, 4, none, true⟩, ⟨some 123, .move (.tmp 122), 4, none, true⟩, ⟨some 124, .load 28 (.tmp 23), 28, some (some 123), true⟩, ⟨some 125, .load 28 (.tmp 26), 28, some (some 123), true⟩, ⟨some 126, .call (⟨.value (.func 18), #[.tmp 124, .tmp 125], #[28, 28]⟩), 4, some (some 123), true⟩, ⟨some 127, .pick (.tmp 123) (.tmp 126) (.const (.bool false)), 4, none, true⟩, ⟨some 128, .move (.tmp 127), 4, none, true⟩, ⟨some 129, .move (.tmp 24), 30, some (some 128), true⟩, ⟨some 130, .move (.tmp 27), 30, some (some 128), true⟩, ⟨some 131, .call (⟨.value (.func 19), #[.tmp 129, .tmp 130], #[30, 30]⟩), 4, some (some 128), true⟩, ⟨some 132, .pick (.tmp 128) (.tmp 131) (.const (.bool false)), 4, none, true⟩, ⟨some 133, .move (.tmp 132), 4, none, true⟩, ⟨some 134, .move (.tmp 9), 32, some (some 133), true⟩, ⟨some 135, .move (.tmp 10), 57, some (some 133), true⟩, ⟨some 136, .call (⟨.value (.func 35), #[.tmp 134, .tmp 135], #[32, 57]⟩), 4, some (some 133), true⟩, ⟨some 137, .pick (.tmp 133) (.tmp 136) (.const (.bool false)), 4, none, true⟩, ⟨some 6, .assign (.tmp 137), 4, none, true⟩])
  .ret)))))))))))
noncomputable def f6 : AFn := ⟨138, [.tmp 6], b6⟩
/-- novation/novationlaw9.JournalPlays -/
noncomputable def b7 : AC :=
  .seq (.region [⟨some 6, .assign (.const (.bool false)), 4, none, true⟩])
  (.seq (.seq (.region [⟨some 12, .call (⟨.value (.func 8), #[], #[]⟩), 4, none, true⟩, ⟨some 13, .unOp .not 4 (.tmp 12), 4, none, true⟩])
  (.cond (.tmp 13) (.seq (.region [⟨some 6, .assign (.const (.bool false)), 4, none, true⟩])
  .ret) .skip))
  (.seq (.seq (.region [⟨some 14, .move (.tmp 2), 69, none, true⟩, ⟨some 15, .call (⟨.builtin .len, #[.tmp 14], #[69]⟩), 3, none, true⟩, ⟨some 16, .binOp .gtr 3 (.tmp 15) (.const (.int .i64 30)) 3, 4, none, true⟩])
  (.cond (.tmp 16) (.seq (.region [⟨some 6, .assign (.const (.bool true)), 4, none, true⟩])
  .ret) .skip))
  (.seq (.seq (.region [⟨some 7, .assign (.const (.int .i64 0)), 3, none, true⟩])
  (.block 0 (.loop [true, true, true, false, false, false, false, true, false, false, false, false, false, false, false, false, false, false, false, false, false, false, false, false, false, false, false, false, false, false, false, false, false, false, false, false, false, false, false, false, false, false, false, false, false, false, false, false, false, false, false, false, false, false, false, false, false, false, false, false] (.seq (.seq (.region [⟨some 17, .move (.tmp 7), 3, none, true⟩, ⟨some 18, .move (.tmp 2), 69, none, true⟩, ⟨some 19, .call (⟨.builtin .len, #[.tmp 18], #[69]⟩), 3, none, true⟩, ⟨some 20, .binOp .lss 3 (.tmp 17) (.tmp 19) 3, 4, none, true⟩])
  (.cond (.tmp 20) .skip (.exit 0)))
  (.seq (.block 1 (.seq (.region [⟨some 23, .move (.tmp 2), 69, none, true⟩, ⟨some 24, .move (.tmp 7), 3, none, true⟩, ⟨some 25, .indexAddr 69 (.tmp 23) (.tmp 24), 0, none, true⟩, ⟨some 26, .fieldAddr 72 (.tmp 25) 2, 0, none, true⟩, ⟨some 27, .load 41 (.tmp 26), 41, none, true⟩, ⟨some 28, .call (⟨.builtin .len, #[.tmp 27], #[41]⟩), 3, none, true⟩, ⟨some 29, .binOp .gtr 3 (.tmp 28) (.const (.int .i64 100)) 3, 4, none, true⟩])
  (.cond (.tmp 29) (.seq (.region [⟨some 6, .assign (.const (.bool true)), 4, none, true⟩])
  .ret) .skip)))
  (.region [⟨some 21, .move (.tmp 7), 3, none, true⟩, ⟨some 22, .binOp .add 3 (.tmp 21) (.const (.int .i64 1)) 3, 3, none, true⟩, ⟨some 7, .assign (.tmp 22), 3, none, true⟩]))))))
  (.seq (.region [⟨some 30, .move (.tmp 0), 22, none, true⟩, ⟨some 31, .call (⟨.value (.func 9), #[.tmp 30], #[22]⟩), 24, none, true⟩, ⟨some 32, .call (⟨.value (.func 10), #[.tmp 31], #[24]⟩), 28, none, true⟩, ⟨some 8, .alloc 28, 0, none, true⟩, ⟨none, .store 28 (.tmp 8) (.tmp 32), 0, none, true⟩])
  (.seq (.region [⟨some 33, .move (.tmp 1), 3, none, true⟩, ⟨some 34, .call (⟨.value (.func 12), #[.tmp 33], #[3]⟩), 32, none, true⟩, ⟨some 35, .move (.tmp 1), 3, none, true⟩, ⟨some 36, .call (⟨.value (.func 25), #[.tmp 35], #[3]⟩), 57, none, true⟩, ⟨some 9, .assign (.tmp 34), 32, none, true⟩, ⟨some 10, .assign (.tmp 36), 57, none, true⟩])
  (.seq (.seq (.region [⟨some 37, .move (.tmp 9), 32, none, true⟩, ⟨some 38, .binOp .eql 32 (.tmp 37) (.const (.pointer none)) 32, 4, none, true⟩])
  (.cond (.tmp 38) (.seq (.region [⟨some 6, .assign (.const (.bool false)), 4, none, true⟩])
  .ret) .skip))
  (.seq (.seq (.region [⟨some 11, .assign (.const (.int .i64 0)), 3, none, true⟩])
  (.block 2 (.loop [false, false, true, false, false, false, false, false, true, true, true, true, false, false, false, false, false, false, false, false, false, false, false, false, false, false, false, false, false, false, false, false, false, false, false, false, false, false, false, false, false, false, false, false, false, false, false, false, false, false, false, false, false, false, false, false, false, false, false, false] (.seq (.seq (.region [⟨some 39, .move (.tmp 11), 3, none, true⟩, ⟨some 40, .move (.tmp 2), 69, none, true⟩, ⟨some 41, .call (⟨.builtin .len, #[.tmp 40], #[69]⟩), 3, none, true⟩, ⟨some 42, .binOp .lss 3 (.tmp 39) (.tmp 41) 3, 4, none, true⟩])
  (.cond (.tmp 42) .skip (.exit 2)))
  (.seq (.block 3 (.seq (.draw (drawOf T.c7 17) [0, 1, 2, 3, 4, 5, 6, 7, 8, 9, 10, 11, 12, 13, 14] [[], [], [], [], [], [3, 4], [3, 4, 5], [0, 1, 2, 3, 4, 5, 6], [0, 1, 2, 3, 4, 5, 6, 7], [0, 1, 2, 3, 4, 5, 6, 7, 8], [0, 1, 2, 3, 4, 5, 6, 7, 8, 9], [0, 1, 2, 3, 4, 5, 6, 7, 8, 9], [0, 1, 2, 3, 4, 5, 6, 7, 8, 9, 10, 11], [0, 1, 2, 3, 4, 5, 6, 7, 8, 9, 10, 11, 12], [0, 1, 2, 3, 4, 5, 6, 7, 8, 9, 10, 11, 12, 13]])
  (.cond (.tmp 59) (.seq (.region [⟨some 6, .assign (.const (.bool false)), 4, none, true⟩])
  .ret) .skip)))
  (.region [⟨some 43, .move (.tmp 11), 3, none, true⟩, ⟨some 44, .binOp .add 3 (.tmp 43) (.const (.int .i64 1)) 3, 3, none, true⟩, ⟨some 11, .assign (.tmp 44), 3, none, true⟩]))))))
  (.seq (.region [⟨some 6, .assign (.const (.bool true)), 4, none, true⟩])
  .ret))))))))
noncomputable def f7 : AFn := ⟨60, [.tmp 6], b7⟩
noncomputable def as8_0 : AC :=
  .seq (.region [⟨some 15, .assign (.tmp 49), 3, none, true⟩])
  (.region [⟨some 16, .alloc 38, 0, none, true⟩, ⟨none, .store 38 (.tmp 16) (.tmp 50), 0, none, true⟩])
noncomputable def bd8_0 : AC :=
  .block 1 (.seq (.seq (.region [⟨some 51, .move (.tmp 15), 3, none, true⟩, ⟨some 52, .load 3 (.tmp 13), 3, none, true⟩, ⟨some 53, .binOp .neq 3 (.tmp 51) (.tmp 52) 3, 4, none, true⟩, ⟨some 54, .move (.tmp 53), 4, none, true⟩, ⟨some 55, .load 38 (.tmp 16), 38, some (some 54), false⟩, ⟨some 56, .load 38 (.tmp 2), 38, some (some 54), false⟩, ⟨some 57, .binOp .neq 38 (.tmp 55) (.tmp 56) 38, 4, some (some 54), false⟩, ⟨some 58, .pick (.tmp 54) (.const (.bool true)) (.tmp 57), 4, none, true⟩])
  (.cond (.tmp 58) (.seq (.region [⟨none, .store 4 (.tmp 0) (.const (.bool false)), 0, none, true⟩])
  .ret) .skip))
  (.region [⟨some 59, .load 3 (.tmp 13), 3, none, true⟩, ⟨some 60, .binOp .add 3 (.tmp 59) (.const (.int .i64 1)) 3, 3, none, true⟩, ⟨none, .store 3 (.tmp 13) (.tmp 60), 0, none, true⟩]))
/-- novation/novationlaw9.known -/
noncomputable def b8 : AC :=
  .seq (.region [⟨some 0, .alloc 4, 0, none, true⟩])
  (.seq (.region [⟨some 17, .call (⟨.value (.func 12), #[.const (.int .i64 1000)], #[3]⟩), 32, none, true⟩, ⟨some 1, .assign (.tmp 17), 32, none, true⟩])
  (.seq (.seq (.region [⟨some 18, .move (.tmp 1), 32, none, true⟩, ⟨some 19, .binOp .eql 32 (.tmp 18) (.const (.pointer none)) 32, 4, none, true⟩])
  (.cond (.tmp 19) (.seq (.region [⟨none, .store 4 (.tmp 0) (.const (.bool false)), 0, none, true⟩])
  .ret) .skip))
  (.seq (.region [⟨some 20, .build 38 #[(0, .const (.int .i64 10)), (6, .const (.int .i64 3))], 38, none, true⟩, ⟨some 2, .alloc 38, 0, none, true⟩, ⟨none, .store 38 (.tmp 2) (.tmp 20), 0, none, true⟩])
  (.seq (.region [⟨some 22, .move (.tmp 1), 32, none, true⟩, ⟨some 23, .call (⟨.value (.func 15), #[.tmp 22], #[32]⟩), 39, none, true⟩, ⟨some 21, .move (.tmp 23), 39, none, true⟩, ⟨some 24, .extract (.tmp 21) 0, 28, none, true⟩, ⟨some 25, .extract (.tmp 21) 1, 30, none, true⟩, ⟨some 26, .extract (.tmp 21) 2, 34, none, true⟩, ⟨some 3, .alloc 28, 0, none, true⟩, ⟨none, .store 28 (.tmp 3) (.tmp 24), 0, none, true⟩, ⟨some 4, .assign (.tmp 25), 30, none, true⟩, ⟨some 5, .assign (.tmp 26), 34, none, true⟩])
  (.seq (.region [⟨some 27, .move (.tmp 1), 32, none, true⟩, ⟨some 28, .call (⟨.value (.func 37), #[], #[]⟩), 28, none, true⟩, ⟨some 29, .call (⟨.value (.func 13), #[.tmp 27, .tmp 28], #[32, 28]⟩), 34, none, true⟩, ⟨some 6, .assign (.tmp 29), 34, none, true⟩])
  (.seq (.region [⟨some 30, .move (.tmp 1), 32, none, true⟩, ⟨some 31, .load 38 (.tmp 2), 38, none, true⟩, ⟨some 32, .call (⟨.value (.func 14), #[.tmp 30, .tmp 31], #[32, 38]⟩), 34, none, true⟩, ⟨some 7, .assign (.tmp 32), 34, none, true⟩])
  (.seq (.region [⟨some 34, .move (.tmp 1), 32, none, true⟩, ⟨some 35, .call (⟨.value (.func 15), #[.tmp 34], #[32]⟩), 39, none, true⟩, ⟨some 33, .move (.tmp 35), 39, none, true⟩, ⟨some 36, .extract (.tmp 33) 0, 28, none, true⟩, ⟨some 37, .extract (.tmp 33) 1, 30, none, true⟩, ⟨some 38, .extract (.tmp 33) 2, 34, none, true⟩, ⟨some 8, .alloc 28, 0, none, true⟩, ⟨none, .store 28 (.tmp 8) (.tmp 36), 0, none, true⟩, ⟨some 9, .assign (.tmp 37), 30, none, true⟩, ⟨some 10, .assign (.tmp 38), 34, none, true⟩])
  (.seq (.region [⟨some 40, .move (.tmp 1), 32, none, true⟩, ⟨some 41, .call (⟨.value (.func 16), #[.tmp 40], #[32]⟩), 42, none, true⟩, ⟨some 39, .move (.tmp 41), 42, none, true⟩, ⟨some 42, .extract (.tmp 39) 0, 41, none, true⟩, ⟨some 43, .extract (.tmp 39) 1, 34, none, true⟩, ⟨some 11, .assign (.tmp 42), 41, none, true⟩, ⟨some 12, .assign (.tmp 43), 34, none, true⟩])
  (.seq (.region [⟨some 44, .move (.tmp 11), 41, none, true⟩, ⟨some 45, .call (⟨.value (.func 17), #[.tmp 44], #[41]⟩), 45, none, true⟩, ⟨some 13, .alloc 3, 0, none, true⟩, ⟨none, .store 3 (.tmp 13) (.const (.int .i64 0)), 0, none, true⟩, ⟨some 14, .assign (.tmp 45), 45, none, true⟩])
  (.seq (.seq (.region [⟨some 46, .move (.tmp 14), 45, none, true⟩, ⟨some 47, .binOp .eql 45 (.tmp 46) (.const .nilFunc) 45, 4, none, true⟩])
  (.cond (.tmp 47) (.seq (.region [⟨none, .store 4 (.tmp 0) (.const (.bool false)), 0, none, true⟩])
  .ret) .skip))
  (.seq (.seq (.region [⟨some 48, .move (.tmp 14), 45, none, true⟩])
  (.block 0 (.range (.tmp 48) #[49, 50] as8_0 bd8_0)))
  (.seq (.draw (drawOf T.c8 19) [0, 1, 2, 3, 4, 5, 6, 7, 8, 9, 10, 11, 12, 13, 14, 15, 16, 17, 18, 19, 20, 21, 22, 23, 24, 25, 26, 27, 28, 29, 30, 31, 32, 33, 34, 35, 36, 37, 38, 39, 40, 41, 42, 43, 44, 45] [[], [0], [0, 1], [0, 1, 2], [0, 1, 2, 3], [0, 1, 2, 3, 4], [0, 1, 2, 3, 4, 5], [0, 1, 2, 3, 4, 5, 6], [0, 1, 2, 3, 4, 5, 6, 7], [0, 1, 2, 3, 4, 5, 6, 7, 8], [0, 1, 2, 3, 4, 5, 6, 7, 8, 9], [0, 1, 2, 3, 4, 5, 6, 7, 8, 9, 10], [0, 1, 2, 3, 4, 5, 6, 7, 8, 9, 10, 11], [0, 1, 2, 3, 4, 5, 6, 7, 8, 9, 10, 11, 12], [0, 1, 2, 3, 4, 5, 6, 7, 8, 9, 10, 11, 12, 13], [0, 1, 2, 3, 4, 5, 6, 7, 8, 9, 10, 11, 12, 13, 14], [0, 1, 2, 3, 4, 5, 6, 7, 8, 9, 10, 11, 12, 13, 14], [0, 1, 2, 3, 4, 5, 6, 7, 8, 9, 10, 11, 12, 13, 14, 15, 16], [0, 1, 2, 3, 4, 5, 6, 7, 8, 9, 10, 11, 12, 13, 14, 15, 16, 17], [0, 1, 2, 3, 4, 5, 6, 7, 8, 9, 10, 11, 12, 13, 14, 15, 16, 17, 18], [0, 1, 2, 3, 4, 5, 6, 7, 8, 9, 10, 11, 12, 13, 14, 15, 16, 17, 18, 19], [0, 1, 2, 3, 4, 5, 6, 7, 8, 9, 10, 11, 12, 13, 14, 15, 16, 17, 18, 19], [0, 1, 2, 3, 4, 5, 6, 7, 8, 9, 10, 11, 12, 13, 14, 15, 16, 17, 18, 19, 21], [0, 1, 2, 3, 4, 5, 6, 7, 8, 9, 10, 11, 12, 13, 14, 15, 16, 17, 18, 19, 20, 21, 22], [0, 1, 2, 3, 4, 5, 6, 7, 8, 9, 10, 11, 12, 13, 14, 15, 16, 17, 18, 19, 20, 21, 22, 23], [0, 1, 2, 3, 4, 5, 6, 7, 8, 9, 10, 11, 12, 13, 14, 15, 16, 17, 18, 19, 20, 21, 22, 23, 24], [0, 1, 2, 3, 4, 5, 6, 7, 8, 9, 10, 11, 12, 13, 14, 15, 16, 17, 18, 19, 20, 21, 22, 23, 24, 25], [0, 1, 2, 3, 4, 5, 6, 7, 8, 9, 10, 11, 12, 13, 14, 15, 16, 17, 18, 19, 20, 21, 22, 23, 24, 25, 26], [0, 1, 2, 3, 4, 5, 6, 7, 8, 9, 10, 11, 12, 13, 14, 15, 16, 17, 18, 19, 20, 21, 22, 23, 24, 25, 26, 27], [0, 1, 2, 3, 4, 5, 6, 7, 8, 9, 10, 11, 12, 13, 14, 15, 16, 17, 18, 19, 20, 21, 22, 23, 24, 25, 26, 27, 28], [0, 1, 2, 3, 4, 5, 6, 7, 8, 9, 10, 11, 12, 13, 14, 15, 16, 17, 18, 19, 20, 21, 22, 23, 24, 25, 26, 27, 28, 29], [0, 1, 2, 3, 4, 5, 6, 7, 8, 9, 10, 11, 12, 13, 14, 15, 16, 17, 18, 19, 20, 21, 22, 23, 24, 25, 26, 27, 28, 29, 30], [0, 1, 2, 3, 4, 5, 6, 7, 8, 9, 10, 11, 12, 13, 14, 15, 16, 17, 18, 19, 20, 21, 22, 23, 24, 25, 26, 27, 28, 29, 30, 31], [0, 1, 2, 3, 4, 5, 6, 7, 8, 9, 10, 11, 12, 13, 14, 15, 16, 17, 18, 19, 20, 21, 22, 23, 24, 25, 26, 27, 28, 29, 30, 31, 32], [0, 1, 2, 3, 4, 5, 6, 7, 8, 9, 10, 11, 12, 13, 14, 15, 16, 17, 18, 19, 20, 21, 22, 23, 24, 25, 26, 27, 28, 29, 30, 31, 32, 33], [0, 1, 2, 3, 4, 5, 6, 7, 8, 9, 10, 11, 12, 13, 14, 15, 16, 17, 18, 19, 20, 21, 22, 23, 24, 25, 26, 27, 28, 29, 30, 31, 32, 33], [0, 1, 2, 3, 4, 5, 6, 7, 8, 9, 10, 11, 12, 13, 14, 15, 16, 17, 18, 19, 20, 21, 22, 23, 24, 25, 26, 27, 28, 29, 30, 31, 32, 33, 34, 35], [0, 1, 2, 3, 4, 5, 6, 7, 8, 9, 10, 11, 12, 13, 14, 15, 16, 17, 18, 19, 20, 21, 22, 23, 24, 25, 26, 27, 28, 29, 30, 31, 32, 33, 34, 35, 36], [0, 1, 2, 3, 4, 5, 6, 7, 8, 9, 10, 11, 12, 13, 14, 15, 16, 17, 18, 19, 20, 21, 22, 23, 24, 25, 26, 27, 28, 29, 30, 31, 32, 33, 34, 35, 36, 37], [0, 1, 2, 3, 4, 5, 6, 7, 8, 9, 10, 11, 12, 13, 14, 15, 16, 17, 18, 19, 20, 21, 22, 23, 24, 25, 26, 27, 28, 29, 30, 31, 32, 33, 34, 35, 36, 37, 38], [0, 1, 2, 3, 4, 5, 6, 7, 8, 9, 10, 11, 12, 13, 14, 15, 16, 17, 18, 19, 20, 21, 22, 23, 24, 25, 26, 27, 28, 29, 30, 31, 32, 33, 34, 35, 36, 37, 38, 39], [0, 1, 2, 3, 4, 5, 6, 7, 8, 9, 10, 11, 12, 13, 14, 15, 16, 17, 18, 19, 20, 21, 22, 23, 24, 25, 26, 27, 28, 29, 30, 31, 32, 33, 34, 35, 36, 37, 38, 39], [0, 1, 2, 3, 4, 5, 6, 7, 8, 9, 10, 11, 12, 13, 14, 15, 16, 17, 18, 19, 20, 21, 22, 23, 24, 25, 26, 27, 28, 29, 30, 31, 32, 33, 34, 35, 36, 37, 38, 39, 40, 41], [0, 1, 2, 3, 4, 5, 6, 7, 8, 9, 10, 11, 12, 13, 14, 15, 16, 17, 18, 19, 20, 21, 22, 23, 24, 25, 26, 27, 28, 29, 30, 31, 32, 33, 34, 35, 36, 37, 38, 39, 40, 41, 42], [0, 1, 2, 3, 4, 5, 6, 7, 8, 9, 10, 11, 12, 13, 14, 15, 16, 17, 18, 19, 20, 21, 22, 23, 24, 25, 26, 27, 28, 29, 30, 31, 32, 33, 34, 35, 36, 37, 38, 39, 40, 41, 42, 43], [0, 1, 2, 3, 4, 5, 6, 7, 8, 9, 10, 11, 12, 13, 14, 15, 16, 17, 18, 19, 20, 21, 22, 23, 24, 25, 26, 27, 28, 29, 30, 31, 32, 33, 34, 35, 36, 37, 38, 39, 40, 41, 42, 43, 44]])
  .ret))))))))))))
noncomputable def f8 : AFn := ⟨106, [.cell 0 4], b8⟩
/-- novation/novationseat.Of -/
noncomputable def b9 : AC :=
  .seq (.region [⟨some 2, .assign (.const (.pointer none)), 24, none, true⟩])
  (.seq (.region [⟨some 3, .move (.tmp 0), 22, none, true⟩, ⟨some 4, .build 76 #[(0, .tmp 3)], 76, none, true⟩, ⟨some 5, .box 76 (.tmp 4), 24, none, true⟩, ⟨some 2, .assign (.tmp 5), 24, none, true⟩])
  .ret)
noncomputable def f9 : AFn := ⟨6, [.tmp 2], b9⟩
/-- (*novation/novationseat.Deck).Config -/
noncomputable def b10 : AC :=
  .seq (.region [⟨some 2, .alloc 28, 0, none, true⟩])
  (.seq (.region [⟨some 3, .alloc 28, 0, none, true⟩])
  (.seq (.seq (.region [⟨some 6, .move (.tmp 0), 24, none, true⟩, ⟨some 7, .call (⟨.value (.func 29), #[.tmp 6, .const (.int .i64 4)], #[24, 3]⟩), 3, none, true⟩, ⟨some 8, .binOp .add 3 (.const (.int .i64 1)) (.tmp 7) 3, 3, none, true⟩, ⟨some 4, .assign (.tmp 8), 3, none, true⟩])
  (.block 0 (.loop [true, false, true, true, true, false, false, false, false, false, false, false, false, false, false, false, false, false, false, false, false, false, false, false, false, false, false, false, false, false, false, false, false, false, false, false, false, false, false, false, false, false, false, false, false, false, false, false, false, false, false, false, false, false, false, false, false, false, false, false, false, false, false, false, false, false, false, false, false, false, false] (.seq (.seq (.region [⟨some 9, .move (.tmp 4), 3, none, true⟩, ⟨some 10, .binOp .gtr 3 (.tmp 9) (.const (.int .i64 0)) 3, 4, none, true⟩])
  (.cond (.tmp 10) .skip (.exit 0)))
  (.seq (.block 1 (.seq (.region [⟨some 13, .move (.tmp 0), 24, none, true⟩, ⟨some 14, .call (⟨.value (.func 29), #[.tmp 13, .const (.int .i64 3)], #[24, 3]⟩), 3, none, true⟩, ⟨some 15, .move (.tmp 0), 24, none, true⟩, ⟨some 16, .call (⟨.value (.func 29), #[.tmp 15, .const (.int .i64 300)], #[24, 3]⟩), 3, none, true⟩, ⟨some 17, .binOp .add 2 (.const (.int .i64 1)) (.tmp 16) 2, 2, none, true⟩, ⟨some 18, .move (.tmp 0), 24, none, true⟩, ⟨some 19, .call (⟨.value (.func 29), #[.tmp 18, .const (.int .i64 12)], #[24, 3]⟩), 3, none, true⟩, ⟨some 20, .move (.tmp 0), 24, none, true⟩, ⟨some 21, .call (⟨.value (.func 29), #[.tmp 20, .const (.int .i64 6)], #[24, 3]⟩), 3, none, true⟩, ⟨some 22, .build 78 #[(0, .tmp 14), (1, .tmp 17), (2, .tmp 19), (3, .tmp 21)], 78, none, true⟩, ⟨some 5, .alloc 78, 0, none, true⟩, ⟨none, .store 78 (.tmp 5) (.tmp 22), 0, none, true⟩])
  (.seq (.seq (.region [⟨some 23, .move (.tmp 0), 24, none, true⟩, ⟨some 24, .call (⟨.value (.func 26), #[.tmp 23, .const (.int .i64 12)], #[24, 3]⟩), 4, none, true⟩])
  (.cond (.tmp 24) (.region [⟨some 25, .move (.tmp 0), 24, none, true⟩, ⟨some 26, .call (⟨.value (.func 38), #[.tmp 25], #[24]⟩), 2, none, true⟩, ⟨some 27, .binOp .rem 2 (.tmp 26) (.const (.int .i64 1000000000000)) 2, 2, none, true⟩, ⟨some 28, .binOp .add 2 (.const (.int .i64 1)) (.tmp 27) 2, 2, none, true⟩, ⟨some 29, .fieldAddr 78 (.tmp 5) 1, 0, none, true⟩, ⟨none, .store 2 (.tmp 29) (.tmp 28), 0, none, true⟩]) .skip))
  (.seq (.seq (.region [⟨some 30, .move (.tmp 0), 24, none, true⟩, ⟨some 31, .call (⟨.value (.func 26), #[.tmp 30, .const (.int .i64 12)], #[24, 3]⟩), 4, none, true⟩])
  (.cond (.tmp 31) (.region [⟨some 32, .move (.tmp 0), 24, none, true⟩, ⟨some 33, .call (⟨.value (.func 38), #[.tmp 32], #[24]⟩), 2, none, true⟩, ⟨some 34, .binOp .rem 2 (.tmp 33) (.const (.int .i64 1000000001)) 2, 2, none, true⟩, ⟨some 35, .move (.tmp 0), 24, none, true⟩, ⟨some 36, .call (⟨.value (.func 38), #[.tmp 35], #[24]⟩), 2, none, true⟩, ⟨some 37, .binOp .rem 2 (.tmp 36) (.const (.int .i64 1000000001)) 2, 2, none, true⟩, ⟨some 38, .fieldAddr 78 (.tmp 5) 2, 0, none, true⟩, ⟨none, .store 2 (.tmp 38) (.tmp 34), 0, none, true⟩, ⟨some 39, .fieldAddr 78 (.tmp 5) 3, 0, none, true⟩, ⟨none, .store 2 (.tmp 39) (.tmp 37), 0, none, true⟩]) .skip))
  (.region [⟨some 40, .fieldAddr 28 (.tmp 3) 0, 0, none, true⟩, ⟨some 41, .load 26 (.tmp 40), 26, none, true⟩, ⟨some 42, .load 78 (.tmp 5), 78, none, true⟩, ⟨some 43, .buildSlice 26 1 #[(0, .tmp 42)], 26, none, true⟩, ⟨some 44, .call (⟨.builtin .append, #[.tmp 41, .tmp 43], #[26, 26]⟩), 26, none, true⟩, ⟨some 45, .fieldAddr 28 (.tmp 3) 0, 0, none, true⟩, ⟨none, .store 26 (.tmp 45) (.tmp 44), 0, none, true⟩])))))
  (.region [⟨some 11, .move (.tmp 4), 3, none, true⟩, ⟨some 12, .binOp .sub 3 (.tmp 11) (.const (.int .i64 1)) 3, 3, none, true⟩, ⟨some 4, .assign (.tmp 12), 3, none, true⟩]))))))
  (.seq (.region [⟨some 46, .move (.tmp 0), 24, none, true⟩, ⟨some 47, .call (⟨.value (.func 29), #[.tmp 46, .const (.int .i64 300)], #[24, 3]⟩), 3, none, true⟩, ⟨some 48, .move (.tmp 0), 24, none, true⟩, ⟨some 49, .call (⟨.value (.func 29), #[.tmp 48, .const (.int .i64 5)], #[24, 3]⟩), 3, none, true⟩, ⟨some 50, .fieldAddr 28 (.tmp 3) 1, 0, none, true⟩, ⟨none, .store 2 (.tmp 50) (.tmp 47), 0, none, true⟩, ⟨some 51, .fieldAddr 28 (.tmp 3) 2, 0, none, true⟩, ⟨none, .store 3 (.tmp 51) (.tmp 49), 0, none, true⟩])
  (.seq (.region [⟨some 52, .move (.tmp 0), 24, none, true⟩, ⟨some 53, .call (⟨.value (.func 29), #[.tmp 52, .const (.int .i64 3)], #[24, 3]⟩), 3, none, true⟩, ⟨some 54, .move (.tmp 0), 24, none, true⟩, ⟨some 55, .call (⟨.value (.func 29), #[.tmp 54, .const (.int .i64 3)], #[24, 3]⟩), 3, none, true⟩, ⟨some 56, .fieldAddr 28 (.tmp 3) 3, 0, none, true⟩, ⟨none, .store 2 (.tmp 56) (.tmp 53), 0, none, true⟩, ⟨some 57, .fieldAddr 28 (.tmp 3) 4, 0, none, true⟩, ⟨none, .store 2 (.tmp 57) (.tmp 55), 0, none, true⟩])
  (.seq (.region [⟨some 58, .move (.tmp 0), 24, none, true⟩, ⟨some 59, .call (⟨.value (.func 29), #[.tmp 58, .const (.int .i64 20)], #[24, 3]⟩), 3, none, true⟩, ⟨some 60, .binOp .add 2 (.const (.int .i64 1)) (.tmp 59) 2, 2, none, true⟩, ⟨some 61, .move (.tmp 0), 24, none, true⟩, ⟨some 62, .call (⟨.value (.func 29), #[.tmp 61, .const (.int .i64 100)], #[24, 3]⟩), 3, none, true⟩, ⟨some 63, .fieldAddr 28 (.tmp 3) 5, 0, none, true⟩, ⟨none, .store 2 (.tmp 63) (.tmp 60), 0, none, true⟩, ⟨some 64, .fieldAddr 28 (.tmp 3) 6, 0, none, true⟩, ⟨none, .store 2 (.tmp 64) (.tmp 62), 0, none, true⟩])
  (.seq (.seq (.region [⟨some 65, .move (.tmp 0), 24, none, true⟩, ⟨some 66, .call (⟨.value (.func 26), #[.tmp 65, .const (.int .i64 15)], #[24, 3]⟩), 4, none, true⟩])
  (.cond (.tmp 66) (.region [⟨some 67, .move (.tmp 0), 24, none, true⟩, ⟨some 68, .call (⟨.value (.func 38), #[.tmp 67], #[24]⟩), 2, none, true⟩, ⟨some 69, .fieldAddr 28 (.tmp 3) 1, 0, none, true⟩, ⟨none, .store 2 (.tmp 69) (.tmp 68), 0, none, true⟩]) .skip))
  (.seq (.region [⟨some 70, .load 28 (.tmp 3), 28, none, true⟩, ⟨none, .store 28 (.tmp 2) (.tmp 70), 0, none, true⟩])
  .ret)))))))
noncomputable def f10 : AFn := ⟨71, [.cell 2 28], b10⟩
/-- novation/novationlaw9.events -/
noncomputable def b11 : AC :=
  .seq (.region [⟨some 3, .box 28 (.tmp 1), 0, none, true⟩, ⟨some 4, .assign (.const (.slice none 0 0)), 30, none, true⟩])
  (.seq (.region [⟨some 5, .assign (.const (.slice none 0 0)), 30, none, true⟩])
  (.seq (.seq (.region [⟨some 7, .move (.tmp 0), 24, none, true⟩, ⟨some 8, .call (⟨.value (.func 29), #[.tmp 7, .const (.int .i64 12)], #[24, 3]⟩), 3, none, true⟩, ⟨some 6, .assign (.tmp 8), 3, none, true⟩])
  (.block 0 (.loop [true, false, false, true, false, true, true, false, false, false, false, false, false, false, false, false, false, false, false, false] (.seq (.seq (.region [⟨some 9, .move (.tmp 6), 3, none, true⟩, ⟨some 10, .binOp .gtr 3 (.tmp 9) (.const (.int .i64 0)) 3, 4, none, true⟩])
  (.cond (.tmp 10) .skip (.exit 0)))
  (.seq (.block 1 (.region [⟨some 13, .move (.tmp 5), 30, none, true⟩, ⟨some 14, .move (.tmp 0), 24, none, true⟩, ⟨some 15, .load 28 (.tmp 3), 28, none, true⟩, ⟨some 16, .call (⟨.value (.func 31), #[.tmp 14, .tmp 15], #[24, 28]⟩), 38, none, true⟩, ⟨some 17, .buildSlice 30 1 #[(0, .tmp 16)], 30, none, true⟩, ⟨some 18, .call (⟨.builtin .append, #[.tmp 13, .tmp 17], #[30, 30]⟩), 30, none, true⟩, ⟨some 5, .assign (.tmp 18), 30, none, true⟩]))
  (.region [⟨some 11, .move (.tmp 6), 3, none, true⟩, ⟨some 12, .binOp .sub 3 (.tmp 11) (.const (.int .i64 1)) 3, 3, none, true⟩, ⟨some 6, .assign (.tmp 12), 3, none, true⟩]))))))
  (.seq (.region [⟨some 19, .move (.tmp 5), 30, none, true⟩, ⟨some 4, .assign (.tmp 19), 30, none, true⟩])
  .ret)))
noncomputable def f11 : AFn := ⟨20, [.tmp 4], b11⟩
/-- novation/tape.New -/
noncomputable def b12 : AC :=
  .seq (.region [⟨some 2, .assign (.const (.pointer none)), 32, none, true⟩])
  (.seq (.region [⟨some 3, .move (.tmp 0), 3, none, true⟩, ⟨some 4, .call (⟨.builtin .max, #[.tmp 3, .const (.int .i64 0)], #[3, 3]⟩), 3, none, true⟩, ⟨some 5, .call (⟨.builtin .min, #[.tmp 4, .const (.int .i64 1048576)], #[3, 3]⟩), 3, none, true⟩, ⟨some 6, .build 81 #[(1, .tmp 5)], 81, none, true⟩, ⟨some 7, .box 81 (.tmp 6), 32, none, true⟩, ⟨some 2, .assign (.tmp 7), 32, none, true⟩])
  .ret)
noncomputable def f12 : AFn := ⟨8, [.tmp 2], b12⟩
/-- novation/journal.Start -/
noncomputable def b13 : AC :=
  .seq (.region [⟨some 3, .box 28 (.tmp 1), 0, none, true⟩, ⟨some 4, .assign (.const (.int .i64 0)), 34, none, true⟩])
  (.seq (.region [⟨some 8, .load 28 (.tmp 3), 28, none, true⟩, ⟨some 9, .call (⟨.value (.func 39), #[.tmp 8], #[28]⟩), 42, none, true⟩, ⟨some 7, .move (.tmp 9), 42, none, true⟩, ⟨some 10, .extract (.tmp 7) 0, 41, none, true⟩, ⟨some 11, .extract (.tmp 7) 1, 34, none, true⟩, ⟨some 5, .assign (.tmp 10), 41, none, true⟩, ⟨some 6, .assign (.tmp 11), 34, none, true⟩])
  (.seq (.block 0 (.seq (.region [⟨some 13, .move (.tmp 6), 34, none, true⟩, ⟨some 14, .binOp .neq 34 (.tmp 13) (.const (.int .i64 0)) 34, 4, none, true⟩, ⟨some 12, .assign (.tmp 14), 4, none, true⟩])
  (.cond (.tmp 12) (.seq (.region [⟨some 15, .move (.tmp 6), 34, none, true⟩, ⟨some 4, .assign (.tmp 15), 34, none, true⟩])
  .ret) (.seq (.region [⟨some 17, .move (.tmp 0), 32, none, true⟩, ⟨some 18, .binOp .eql 32 (.tmp 17) (.const (.pointer none)) 32, 4, none, true⟩, ⟨some 16, .assign (.tmp 18), 4, none, true⟩])
  (.cond (.tmp 16) (.seq (.region [⟨some 4, .assign (.const (.int .i64 3)), 34, none, true⟩])
  .ret) (.seq (.region [⟨some 20, .move (.tmp 0), 32, none, true⟩, ⟨some 21, .call (⟨.value (.func 23), #[.tmp 20], #[32]⟩), 4, none, true⟩, ⟨some 19, .assign (.tmp 21), 4, none, true⟩])
  (.cond (.tmp 19) (.seq (.region [⟨some 4, .assign (.const (.int .i64 15)), 34, none, true⟩])
  .ret) (.seq (.region [⟨some 23, .move (.tmp 0), 32, none, true⟩, ⟨some 24, .call (⟨.value (.func 20), #[.tmp 23], #[32]⟩), 3, none, true⟩, ⟨some 25, .binOp .gtr 3 (.tmp 24) (.const (.int .i64 0)) 3, 4, none, true⟩, ⟨some 22, .assign (.tmp 25), 4, none, true⟩])
  (.cond (.tmp 22) (.seq (.region [⟨some 4, .assign (.const (.int .i64 4)), 34, none, true⟩])
  .ret) .skip)))))))))
  (.seq (.region [⟨some 26, .move (.tmp 0), 32, none, true⟩, ⟨some 27, .move (.tmp 5), 41, none, true⟩, ⟨some 28, .call (⟨.value (.func 40), #[.tmp 26, .tmp 27], #[32, 41]⟩), 34, none, true⟩, ⟨some 4, .assign (.tmp 28), 34, none, true⟩])
  .ret)))
noncomputable def f13 : AFn := ⟨29, [.tmp 4], b13⟩
/-- novation/journal.Add -/
noncomputable def b14 : AC :=
  .seq (.region [⟨some 3, .box 38 (.tmp 1), 0, none, true⟩, ⟨some 4, .assign (.const (.int .i64 0)), 34, none, true⟩])
  (.seq (.region [⟨some 8, .load 38 (.tmp 3), 38, none, true⟩, ⟨some 9, .call (⟨.value (.func 41), #[.tmp 8], #[38]⟩), 42, none, true⟩, ⟨some 7, .move (.tmp 9), 42, none, true⟩, ⟨some 10, .extract (.tmp 7) 0, 41, none, true⟩, ⟨some 11, .extract (.tmp 7) 1, 34, none, true⟩, ⟨some 5, .assign (.tmp 10), 41, none, true⟩, ⟨some 6, .assign (.tmp 11), 34, none, true⟩])
  (.seq (.seq (.region [⟨some 12, .move (.tmp 6), 34, none, true⟩, ⟨some 13, .binOp .neq 34 (.tmp 12) (.const (.int .i64 0)) 34, 4, none, true⟩])
  (.cond (.tmp 13) (.seq (.region [⟨some 14, .move (.tmp 6), 34, none, true⟩, ⟨some 4, .assign (.tmp 14), 34, none, true⟩])
  .ret) .skip))
  (.seq (.region [⟨some 15, .move (.tmp 0), 32, none, true⟩, ⟨some 16, .move (.tmp 5), 41, none, true⟩, ⟨some 17, .call (⟨.value (.func 40), #[.tmp 15, .tmp 16], #[32, 41]⟩), 34, none, true⟩, ⟨some 4, .assign (.tmp 17), 34, none, true⟩])
  .ret)))
noncomputable def f14 : AFn := ⟨18, [.tmp 4], b14⟩
noncomputable def as15_0 : AC :=
  .seq (.region [⟨some 11, .assign (.tmp 46), 3, none, true⟩])
  (.region [⟨some 12, .assign (.tmp 47), 41, none, true⟩])
noncomputable def bd15_0 : AC :=
  .block 1 (.seq (.seq (.region [⟨some 48, .move (.tmp 11), 3, none, true⟩, ⟨some 49, .binOp .eql 3 (.tmp 48) (.const (.int .i64 0)) 3, 4, none, true⟩])
  (.cond (.tmp 49) (.seq (.seq (.region [⟨some 51, .move (.tmp 12), 41, none, true⟩, ⟨some 52, .call (⟨.value (.func 44), #[.tmp 51], #[41]⟩), 87, none, true⟩, ⟨some 50, .move (.tmp 52), 87, none, true⟩, ⟨some 53, .extract (.tmp 50) 0, 28, none, true⟩, ⟨some 54, .extract (.tmp 50) 1, 34, none, true⟩, ⟨none, .store 28 (.tmp 9) (.tmp 53), 0, none, true⟩, ⟨none, .store 34 (.tmp 6) (.tmp 54), 0, none, true⟩])
  (.seq (.region [⟨some 55, .load 34 (.tmp 6), 34, none, true⟩, ⟨some 56, .binOp .neq 34 (.tmp 55) (.const (.int .i64 0)) 34, 4, none, true⟩])
  (.cond (.tmp 56) (.seq (.region [⟨some 57, .build 28 #[], 28, none, true⟩, ⟨none, .store 28 (.tmp 2) (.tmp 57), 0, none, true⟩, ⟨none, .store 30 (.tmp 3) (.const (.slice none 0 0)), 0, none, true⟩, ⟨none, .store 34 (.tmp 4) (.const (.int .i64 13)), 0, none, true⟩])
  .ret) .skip)))
  (.exit 1)) .skip))
  (.seq (.region [⟨some 59, .move (.tmp 12), 41, none, true⟩, ⟨some 60, .call (⟨.value (.func 45), #[.tmp 59], #[41]⟩), 89, none, true⟩, ⟨some 58, .move (.tmp 60), 89, none, true⟩, ⟨some 61, .extract (.tmp 58) 0, 38, none, true⟩, ⟨some 62, .extract (.tmp 58) 1, 34, none, true⟩, ⟨some 13, .alloc 38, 0, none, true⟩, ⟨none, .store 38 (.tmp 13) (.tmp 61), 0, none, true⟩, ⟨some 14, .assign (.tmp 62), 34, none, true⟩])
  (.seq (.seq (.region [⟨some 63, .move (.tmp 14), 34, none, true⟩, ⟨some 64, .binOp .neq 34 (.tmp 63) (.const (.int .i64 0)) 34, 4, none, true⟩])
  (.cond (.tmp 64) (.seq (.region [⟨some 65, .build 28 #[], 28, none, true⟩, ⟨none, .store 28 (.tmp 2) (.tmp 65), 0, none, true⟩, ⟨none, .store 30 (.tmp 3) (.const (.slice none 0 0)), 0, none, true⟩, ⟨none, .store 34 (.tmp 4) (.const (.int .i64 13)), 0, none, true⟩])
  .ret) .skip))
  (.region [⟨some 66, .load 30 (.tmp 10), 30, none, true⟩, ⟨some 67, .load 38 (.tmp 13), 38, none, true⟩, ⟨some 68, .buildSlice 30 1 #[(0, .tmp 67)], 30, none, true⟩, ⟨some 69, .call (⟨.builtin .append, #[.tmp 66, .tmp 68], #[30, 30]⟩), 30, none, true⟩, ⟨none, .store 30 (.tmp 10) (.tmp 69), 0, none, true⟩]))))
/-- novation/journal.Open -/
noncomputable def b15 : AC :=
  .seq (.region [⟨some 2, .alloc 28, 0, none, true⟩, ⟨some 3, .alloc 30, 0, none, true⟩, ⟨some 4, .alloc 34, 0, none, true⟩])
  (.seq (.region [⟨some 16, .move (.tmp 0), 32, none, true⟩, ⟨some 17, .call (⟨.value (.func 16), #[.tmp 16], #[32]⟩), 42, none, true⟩, ⟨some 15, .move (.tmp 17), 42, none, true⟩, ⟨some 18, .extract (.tmp 15) 0, 41, none, true⟩, ⟨some 19, .extract (.tmp 15) 1, 34, none, true⟩, ⟨some 6, .alloc 34, 0, none, true⟩, ⟨some 5, .assign (.tmp 18), 41, none, true⟩, ⟨none, .store 34 (.tmp 6) (.tmp 19), 0, none, true⟩])
  (.seq (.seq (.region [⟨some 20, .load 34 (.tmp 6), 34, none, true⟩, ⟨some 21, .binOp .neq 34 (.tmp 20) (.const (.int .i64 0)) 34, 4, none, true⟩])
  (.cond (.tmp 21) (.seq (.draw (drawOf T.c15 3) [0, 1, 2, 3, 4] [[], [], [0], [0, 2], [0, 1, 2, 3]])
  .ret) .skip))
  (.seq (.seq (.region [⟨some 24, .move (.tmp 5), 41, none, true⟩, ⟨some 25, .call (⟨.value (.func 42), #[.tmp 24], #[41]⟩), 3, none, true⟩, ⟨some 7, .assign (.tmp 25), 3, none, true⟩])
  (.seq (.region [⟨some 26, .move (.tmp 7), 3, none, true⟩, ⟨some 27, .move (.tmp 5), 41, none, true⟩, ⟨some 28, .call (⟨.builtin .len, #[.tmp 27], #[41]⟩), 3, none, true⟩, ⟨some 29, .binOp .lss 3 (.tmp 26) (.tmp 28) 3, 4, none, true⟩])
  (.cond (.tmp 29) (.seq (.seq (.region [⟨some 30, .move (.tmp 0), 32, none, true⟩, ⟨some 31, .move (.tmp 7), 3, none, true⟩, ⟨some 32, .call (⟨.value (.func 21), #[.tmp 30, .tmp 31], #[32, 3]⟩), 34, none, true⟩, ⟨some 8, .assign (.tmp 32), 34, none, true⟩])
  (.seq (.region [⟨some 33, .move (.tmp 8), 34, none, true⟩, ⟨some 34, .binOp .neq 34 (.tmp 33) (.const (.int .i64 0)) 34, 4, none, true⟩])
  (.cond (.tmp 34) (.seq (.region [⟨some 35, .build 28 #[], 28, none, true⟩, ⟨some 36, .move (.tmp 8), 34, none, true⟩, ⟨none, .store 28 (.tmp 2) (.tmp 35), 0, none, true⟩, ⟨none, .store 30 (.tmp 3) (.const (.slice none 0 0)), 0, none, true⟩, ⟨none, .store 34 (.tmp 4) (.tmp 36), 0, none, true⟩])
  .ret) .skip)))
  (.region [⟨some 37, .move (.tmp 5), 41, none, true⟩, ⟨some 38, .move (.tmp 7), 3, none, true⟩, ⟨some 39, .slice 41 (.tmp 37) none (some (.tmp 38)) none, 41, none, true⟩, ⟨some 5, .assign (.tmp 39), 41, none, true⟩])) .skip)))
  (.seq (.seq (.region [⟨some 40, .move (.tmp 5), 41, none, true⟩, ⟨some 41, .call (⟨.builtin .len, #[.tmp 40], #[41]⟩), 3, none, true⟩, ⟨some 42, .binOp .eql 3 (.tmp 41) (.const (.int .i64 0)) 3, 4, none, true⟩])
  (.cond (.tmp 42) (.seq (.region [⟨some 43, .build 28 #[], 28, none, true⟩, ⟨none, .store 28 (.tmp 2) (.tmp 43), 0, none, true⟩, ⟨none, .store 30 (.tmp 3) (.const (.slice none 0 0)), 0, none, true⟩, ⟨none, .store 34 (.tmp 4) (.const (.int .i64 3)), 0, none, true⟩])
  .ret) .skip))
  (.seq (.region [⟨some 9, .alloc 28, 0, none, true⟩])
  (.seq (.region [⟨some 10, .alloc 30, 0, none, true⟩])
  (.seq (.seq (.region [⟨some 44, .move (.tmp 5), 41, none, true⟩, ⟨some 45, .call (⟨.value (.func 43), #[.tmp 44], #[41]⟩), 85, none, true⟩])
  (.block 0 (.range (.tmp 45) #[46, 47] as15_0 bd15_0)))
  (.seq (.draw (drawOf T.c15 25) [0, 1, 2, 3, 4] [[], [], [0], [0, 1, 2], [0, 1, 2, 3]])
  .ret))))))))
noncomputable def f15 : AFn := ⟨72, [.cell 2 28, .cell 3 30, .cell 4 34], b15⟩
/-- (*novation/tape.Tape).Read -/
noncomputable def b16 : AC :=
  .seq (.region [⟨some 2, .assign (.const (.slice none 0 0)), 41, none, true⟩, ⟨some 3, .assign (.const (.int .i64 0)), 34, none, true⟩])
  (.seq (.block 0 (.seq (.region [⟨some 5, .move (.tmp 0), 32, none, true⟩, ⟨some 6, .binOp .eql 32 (.tmp 5) (.const (.pointer none)) 32, 4, none, true⟩, ⟨some 4, .assign (.tmp 6), 4, none, true⟩])
  (.cond (.tmp 4) (.seq (.region [⟨some 2, .assign (.const (.slice none 0 0)), 41, none, true⟩, ⟨some 3, .assign (.const (.int .i64 3)), 34, none, true⟩])
  .ret) (.seq (.region [⟨some 8, .move (.tmp 0), 32, none, true⟩, ⟨some 9, .nilCheck (.tmp 8), 0, none, true⟩, ⟨some 10, .fieldAddr 81 (.tmp 9) 3, 0, none, true⟩, ⟨some 11, .load 4 (.tmp 10), 4, none, true⟩, ⟨some 7, .assign (.tmp 11), 4, none, true⟩])
  (.cond (.tmp 7) (.seq (.region [⟨some 2, .assign (.const (.slice none 0 0)), 41, none, true⟩, ⟨some 3, .assign (.const (.int .i64 15)), 34, none, true⟩])
  .ret) .skip)))))
  (.seq (.region [⟨some 12, .move (.tmp 0), 32, none, true⟩, ⟨some 13, .nilCheck (.tmp 12), 0, none, true⟩, ⟨some 14, .fieldAddr 81 (.tmp 13) 0, 0, none, true⟩, ⟨some 15, .load 41 (.tmp 14), 41, none, true⟩, ⟨some 16, .call (⟨.value (.func 46), #[.tmp 15], #[41]⟩), 41, none, true⟩, ⟨some 2, .assign (.tmp 16), 41, none, true⟩, ⟨some 3, .assign (.const (.int .i64 0)), 34, none, true⟩])
  .ret))
noncomputable def f16 : AFn := ⟨17, [.tmp 2, .tmp 3], b16⟩
/-- novation/journal.All -/
noncomputable def b17 : AC :=
  .seq (.region [⟨some 2, .assign (.const .nilFunc), 45, none, true⟩])
  (.seq (.region [⟨some 4, .move (.tmp 0), 41, none, true⟩, ⟨some 5, .call (⟨.value (.func 46), #[.tmp 4], #[41]⟩), 41, none, true⟩, ⟨some 3, .alloc 41, 0, none, true⟩, ⟨none, .store 41 (.tmp 3) (.tmp 5), 0, none, true⟩])
  (.seq (.region [⟨some 6, .makeFunc (.func 47) #[] #[.tmp 3], 44, none, true⟩, ⟨some 2, .assign (.tmp 6), 45, none, true⟩])
  .ret))
noncomputable def f17 : AFn := ⟨7, [.tmp 2], b17⟩
/-- novation/novationref4.SamePlan -/
noncomputable def b18 : AC :=
  .seq (.region [⟨some 2, .box 28 (.tmp 0), 0, none, true⟩, ⟨some 3, .box 28 (.tmp 1), 0, none, true⟩, ⟨some 4, .assign (.const (.bool false)), 4, none, true⟩])
  (.seq (.seq (.region [⟨some 6, .fieldAddr 28 (.tmp 2) 0, 0, none, true⟩, ⟨some 7, .load 26 (.tmp 6), 26, none, true⟩, ⟨some 8, .call (⟨.builtin .len, #[.tmp 7], #[26]⟩), 3, none, true⟩, ⟨some 9, .fieldAddr 28 (.tmp 3) 0, 0, none, true⟩, ⟨some 10, .load 26 (.tmp 9), 26, none, true⟩, ⟨some 11, .call (⟨.builtin .len, #[.tmp 10], #[26]⟩), 3, none, true⟩, ⟨some 12, .binOp .neq 3 (.tmp 8) (.tmp 11) 3, 4, none, true⟩])
  (.cond (.tmp 12) (.seq (.region [⟨some 4, .assign (.const (.bool false)), 4, none, true⟩])
  .ret) .skip))
  (.seq (.seq (.region [⟨some 5, .assign (.const (.int .i64 0)), 3, none, true⟩])
  (.block 0 (.loop [false, false, true, true, false, true, false, false, false, false, false, false, false, false, false, false, false, false, false, false, false, false, false, false, false, false, false, false, false, false, false, false, false, false, false, false, false, false, false, false, false, false, false, false, false, false, false, false, false, false, false, false, false, false, false, false, false, false, false, false, false, false, false, false, false, false, false, false, false, false, false] (.seq (.seq (.region [⟨some 13, .move (.tmp 5), 3, none, true⟩, ⟨some 14, .fieldAddr 28 (.tmp 2) 0, 0, none, true⟩, ⟨some 15, .load 26 (.tmp 14), 26, none, true⟩, ⟨some 16, .call (⟨.builtin .len, #[.tmp 15], #[26]⟩), 3, none, true⟩, ⟨some 17, .binOp .lss 3 (.tmp 13) (.tmp 16) 3, 4, none, true⟩])
  (.cond (.tmp 17) .skip (.exit 0)))
  (.seq (.block 1 (.seq (.draw (drawOf T.c18 6) [0, 1, 2, 3, 4, 5, 6, 7, 8, 9, 10] [[], [0], [], [0, 1, 2], [0, 1, 2, 3], [], [5], [], [5, 6, 7], [5, 6, 7, 8], [0, 1, 2, 3, 4, 5, 6, 7, 8, 9]])
  (.cond (.tmp 30) (.seq (.region [⟨some 4, .assign (.const (.bool false)), 4, none, true⟩])
  .ret) .skip)))
  (.region [⟨some 18, .move (.tmp 5), 3, none, true⟩, ⟨some 19, .binOp .add 3 (.tmp 18) (.const (.int .i64 1)) 3, 3, none, true⟩, ⟨some 5, .assign (.tmp 19), 3, none, true⟩]))))))
  (.seq (.region [⟨some 31, .fieldAddr 28 (.tmp 2) 1, 0, none, true⟩, ⟨some 32, .load 2 (.tmp 31), 2, none, true⟩, ⟨some 33, .fieldAddr 28 (.tmp 3) 1, 0, none, true⟩, ⟨some 34, .load 2 (.tmp 33), 2, none, true⟩, ⟨some 35, .binOp .eql 2 (.tmp 32) (.tmp 34) 2, 4, none, true⟩, ⟨some 36, .move (.tmp 35), 4, none, true⟩, ⟨some 37, .fieldAddr 28 (.tmp 2) 2, 0, some (some 36), true⟩, ⟨some 38, .load 3 (.tmp 37), 3, some (some 36), true⟩, ⟨some 39, .fieldAddr 28 (.tmp 3) 2, 0, some (some 36), true⟩, ⟨some 40, .load 3 (.tmp 39), 3, some (some 36), true⟩, ⟨some 41, .binOp .eql 3 (.tmp 38) (.tmp 40) 3, 4, some (some 36), true⟩, ⟨some 42, .pick (.tmp 36) (.tmp 41) (.const (.bool false)), 4, none, true⟩, ⟨some 43, .move (.tmp 42), 4, none, true⟩, ⟨some 44, .fieldAddr 28 (.tmp 2) 3, 0, some (some 43), true⟩, ⟨some 45, .load 2 (.tmp 44), 2, some (some 43), true⟩, ⟨some 46, .fieldAddr 28 (.tmp 3) 3, 0, some (some 43), true⟩, ⟨some 47, .load 2 (.tmp 46), 2, some (some 43), true⟩, ⟨some 48, .binOp .eql 2 (.tmp 45) (.tmp 47) 2, 4, some (some 43), true⟩, ⟨some 49, .pick (.tmp 43) (.tmp 48) (.const (.bool false)), 4, none, true⟩, ⟨some 50, .move (.tmp 49), 4, none, true⟩, ⟨some 51, .fieldAddr 28 (.tmp 2) 4, 0, some (some 50), true⟩, ⟨some 52, .load 2 (.tmp 51), 2, some (some 50), true⟩, ⟨some 53, .fieldAddr 28 (.tmp 3) 4, 0, some (some 50), true⟩, ⟨some 54, .load 2 (.tmp 53), 2, some (some 50), true⟩, ⟨some 55, .binOp .eql 2 (.tmp 52) (.tmp 54) 2, 4, some (some 50), true⟩, ⟨some 56, .pick (.tmp 50) (.tmp 55) (.const (.bool false)), 4, none, true⟩, ⟨some 57, .move (.tmp 56), 4, none, true⟩, ⟨some 58, .fieldAddr 28 (.tmp 2) 5, 0, some (some 57), true⟩, ⟨some 59, .load 2 (.tmp 58), 2, some (some 57), true⟩, ⟨some 60, .fieldAddr 28 (.tmp 3) 5, 0, some (some 57), true⟩, ⟨some 61, .load 2 (.tmp 60), 2, some (some 57), true⟩, ⟨some 62, .binOp .eql 2 (.tmp 59) (.tmp 61) 2, 4, some (some 57), true⟩, ⟨some 63, .pick (.tmp 57) (.tmp 62) (.const (.bool false)), 4, none, true⟩, ⟨some 64, .move (.tmp 63), 4, none, true⟩, ⟨some 65, .fieldAddr 28 (.tmp 2) 6, 0, some (some 64), true⟩, ⟨some 66, .load 2 (.tmp 65), 2, some (some 64), true⟩, ⟨some 67, .fieldAddr 28 (.tmp 3) 6, 0, some (some 64), true⟩, ⟨some 68, .load 2 (.tmp 67), 2, some (some 64), true⟩, ⟨some 69, .binOp .eql 2 (.tmp 66) (.tmp 68) 2, 4, some (some 64), true⟩, ⟨some 70, .pick (.tmp 64) (.tmp 69) (.const (.bool false)), 4, none, true⟩, ⟨some 4, .assign (.tmp 70), 4, none, true⟩])
  .ret)))
noncomputable def f18 : AFn := ⟨71, [.tmp 4], b18⟩
/-- novation/novationhelp.Events -/
noncomputable def b19 : AC :=
  .seq (.region [⟨some 4, .assign (.const (.bool false)), 4, none, true⟩])
  (.seq (.seq (.region [⟨some 6, .move (.tmp 0), 30, none, true⟩, ⟨some 7, .call (⟨.builtin .len, #[.tmp 6], #[30]⟩), 3, none, true⟩, ⟨some 8, .move (.tmp 1), 30, none, true⟩, ⟨some 9, .call (⟨.builtin .len, #[.tmp 8], #[30]⟩), 3, none, true⟩, ⟨some 10, .binOp .neq 3 (.tmp 7) (.tmp 9) 3, 4, none, true⟩])
  (.cond (.tmp 10) (.seq (.region [⟨some 4, .assign (.const (.bool false)), 4, none, true⟩])
  .ret) .skip))
  (.seq (.seq (.region [⟨some 5, .assign (.const (.int .i64 0)), 3, none, true⟩])
  (.block 0 (.loop [true, true, false, false, false, true, false, false, false, false, false, false, false, false, false, false, false, false, false, false, false, false, false, false, false, false] (.seq (.seq (.region [⟨some 11, .move (.tmp 5), 3, none, true⟩, ⟨some 12, .move (.tmp 0), 30, none, true⟩, ⟨some 13, .call (⟨.builtin .len, #[.tmp 12], #[30]⟩), 3, none, true⟩, ⟨some 14, .binOp .lss 3 (.tmp 11) (.tmp 13) 3, 4, none, true⟩])
  (.cond (.tmp 14) .skip (.exit 0)))
  (.seq (.block 1 (.seq (.draw (drawOf T.c19 6) [0, 1, 2, 3, 4, 5, 6, 7, 8] [[], [], [0, 1], [0, 1, 2], [], [], [4, 5], [4, 5, 6], [0, 1, 2, 3, 4, 5, 6, 7]])
  (.cond (.tmp 25) (.seq (.region [⟨some 4, .assign (.const (.bool false)), 4, none, true⟩])
  .ret) .skip)))
  (.region [⟨some 15, .move (.tmp 5), 3, none, true⟩, ⟨some 16, .binOp .add 3 (.tmp 15) (.const (.int .i64 1)) 3, 3, none, true⟩, ⟨some 5, .assign (.tmp 16), 3, none, true⟩]))))))
  (.seq (.region [⟨some 4, .assign (.const (.bool true)), 4, none, true⟩])
  .ret)))
noncomputable def f19 : AFn := ⟨26, [.tmp 4], b19⟩
/-- (*novation/tape.Tape).Len -/
noncomputable def b20 : AC :=
  .seq (.region [⟨some 2, .assign (.const (.int .i64 0)), 3, none, true⟩])
  (.seq (.seq (.region [⟨some 3, .move (.tmp 0), 32, none, true⟩, ⟨some 4, .binOp .eql 32 (.tmp 3) (.const (.pointer none)) 32, 4, none, true⟩])
  (.cond (.tmp 4) (.seq (.region [⟨some 2, .assign (.const (.int .i64 0)), 3, none, true⟩])
  .ret) .skip))
  (.seq (.region [⟨some 5, .move (.tmp 0), 32, none, true⟩, ⟨some 6, .nilCheck (.tmp 5), 0, none, true⟩, ⟨some 7, .fieldAddr 81 (.tmp 6) 0, 0, none, true⟩, ⟨some 8, .load 41 (.tmp 7), 41, none, true⟩, ⟨some 9, .call (⟨.builtin .len, #[.tmp 8], #[41]⟩), 3, none, true⟩, ⟨some 2, .assign (.tmp 9), 3, none, true⟩])
  .ret))
noncomputable def f20 : AFn := ⟨10, [.tmp 2], b20⟩
/-- (*novation/tape.Tape).Cut -/
noncomputable def b21 : AC :=
  .seq (.region [⟨some 4, .assign (.const (.int .i64 0)), 34, none, true⟩])
  (.seq (.block 0 (.seq (.region [⟨some 6, .move (.tmp 0), 32, none, true⟩, ⟨some 7, .binOp .eql 32 (.tmp 6) (.const (.pointer none)) 32, 4, none, true⟩, ⟨some 5, .assign (.tmp 7), 4, none, true⟩])
  (.cond (.tmp 5) (.seq (.region [⟨some 4, .assign (.const (.int .i64 3)), 34, none, true⟩])
  .ret) (.seq (.region [⟨some 9, .move (.tmp 0), 32, none, true⟩, ⟨some 10, .nilCheck (.tmp 9), 0, none, true⟩, ⟨some 11, .fieldAddr 81 (.tmp 10) 3, 0, none, true⟩, ⟨some 12, .load 4 (.tmp 11), 4, none, true⟩, ⟨some 8, .assign (.tmp 12), 4, none, true⟩])
  (.cond (.tmp 8) (.seq (.region [⟨some 4, .assign (.const (.int .i64 15)), 34, none, true⟩])
  .ret) (.seq (.region [⟨some 14, .move (.tmp 1), 3, none, true⟩, ⟨some 15, .binOp .lss 3 (.tmp 14) (.const (.int .i64 0)) 3, 4, none, true⟩, ⟨some 16, .move (.tmp 15), 4, none, true⟩, ⟨some 17, .move (.tmp 1), 3, some (some 16), false⟩, ⟨some 18, .move (.tmp 0), 32, some (some 16), false⟩, ⟨some 19, .nilCheck (.tmp 18), 0, some (some 16), false⟩, ⟨some 20, .fieldAddr 81 (.tmp 19) 0, 0, some (some 16), false⟩, ⟨some 21, .load 41 (.tmp 20), 41, some (some 16), false⟩, ⟨some 22, .call (⟨.builtin .len, #[.tmp 21], #[41]⟩), 3, some (some 16), false⟩, ⟨some 23, .binOp .gtr 3 (.tmp 17) (.tmp 22) 3, 4, some (some 16), false⟩, ⟨some 24, .pick (.tmp 16) (.const (.bool true)) (.tmp 23), 4, none, true⟩, ⟨some 13, .assign (.tmp 24), 4, none, true⟩])
  (.cond (.tmp 13) (.seq (.region [⟨some 4, .assign (.const (.int .i64 1)), 34, none, true⟩])
  .ret) (.seq (.region [⟨some 26, .move (.tmp 0), 32, none, true⟩, ⟨some 27, .call (⟨.value (.func 48), #[.tmp 26], #[32]⟩), 4, none, true⟩, ⟨some 25, .assign (.tmp 27), 4, none, true⟩])
  (.cond (.tmp 25) (.seq (.seq (.region [⟨some 28, .move (.tmp 0), 32, none, true⟩, ⟨some 29, .nilCheck (.tmp 28), 0, none, true⟩, ⟨some 30, .fieldAddr 81 (.tmp 29) 5, 0, none, true⟩, ⟨some 31, .load 3 (.tmp 30), 3, none, true⟩, ⟨some 32, .binOp .gtr 3 (.tmp 31) (.const (.int .i64 0)) 3, 4, none, true⟩])
  (.cond (.tmp 32) (.region [⟨some 33, .move (.tmp 0), 32, none, true⟩, ⟨some 34, .move (.tmp 0), 32, none, true⟩, ⟨some 35, .nilCheck (.tmp 34), 0, none, true⟩, ⟨some 36, .fieldAddr 81 (.tmp 35) 0, 0, none, true⟩, ⟨some 37, .load 41 (.tmp 36), 41, none, true⟩, ⟨some 38, .move (.tmp 1), 3, none, true⟩, ⟨some 39, .slice 41 (.tmp 37) none (some (.tmp 38)) none, 41, none, true⟩, ⟨some 40, .nilCheck (.tmp 33), 0, none, true⟩, ⟨some 41, .fieldAddr 81 (.tmp 40) 0, 0, none, true⟩, ⟨none, .store 41 (.tmp 41) (.tmp 39), 0, none, true⟩]) .skip))
  (.seq (.region [⟨some 4, .assign (.const (.int .i64 15)), 34, none, true⟩])
  .ret)) .skip)))))))))
  (.seq (.region [⟨some 42, .move (.tmp 0), 32, none, true⟩, ⟨some 43, .move (.tmp 0), 32, none, true⟩, ⟨some 44, .nilCheck (.tmp 43), 0, none, true⟩, ⟨some 45, .fieldAddr 81 (.tmp 44) 0, 0, none, true⟩, ⟨some 46, .load 41 (.tmp 45), 41, none, true⟩, ⟨some 47, .move (.tmp 1), 3, none, true⟩, ⟨some 48, .slice 41 (.tmp 46) none (some (.tmp 47)) none, 41, none, true⟩, ⟨some 49, .nilCheck (.tmp 42), 0, none, true⟩, ⟨some 50, .fieldAddr 81 (.tmp 49) 0, 0, none, true⟩, ⟨none, .store 41 (.tmp 50) (.tmp 48), 0, none, true⟩])
  (.seq (.region [⟨some 4, .assign (.const (.int .i64 0)), 34, none, true⟩])
  .ret)))
noncomputable def f21 : AFn := ⟨51, [.tmp 4], b21⟩
/-- (*novation/tape.Tape).Arm -/
noncomputable def b22 : AC :=
  .seq (.seq (.region [⟨some 6, .move (.tmp 0), 32, none, true⟩, ⟨some 7, .binOp .eql 32 (.tmp 6) (.const (.pointer none)) 32, 4, none, true⟩, ⟨some 8, .move (.tmp 7), 4, none, true⟩, ⟨some 9, .move (.tmp 0), 32, some (some 8), false⟩, ⟨some 10, .nilCheck (.tmp 9), 0, some (some 8), false⟩, ⟨some 11, .fieldAddr 81 (.tmp 10) 3, 0, some (some 8), false⟩, ⟨some 12, .load 4 (.tmp 11), 4, some (some 8), false⟩, ⟨some 13, .pick (.tmp 8) (.const (.bool true)) (.tmp 12), 4, none, true⟩])
  (.cond (.tmp 13) .ret .skip))
  (.region [⟨some 14, .move (.tmp 0), 32, none, true⟩, ⟨some 15, .move (.tmp 0), 32, none, true⟩, ⟨some 16, .move (.tmp 0), 32, none, true⟩, ⟨some 17, .move (.tmp 1), 3, none, true⟩, ⟨some 18, .binOp .geq 3 (.tmp 17) (.const (.int .i64 0)) 3, 4, none, true⟩, ⟨some 19, .move (.tmp 1), 3, none, true⟩, ⟨some 20, .move (.tmp 2), 3, none, true⟩, ⟨some 21, .nilCheck (.tmp 14), 0, none, true⟩, ⟨some 22, .fieldAddr 81 (.tmp 21) 2, 0, none, true⟩, ⟨none, .store 4 (.tmp 22) (.tmp 18), 0, none, true⟩, ⟨some 23, .nilCheck (.tmp 15), 0, none, true⟩, ⟨some 24, .fieldAddr 81 (.tmp 23) 4, 0, none, true⟩, ⟨none, .store 3 (.tmp 24) (.tmp 19), 0, none, true⟩, ⟨some 25, .nilCheck (.tmp 16), 0, none, true⟩, ⟨some 26, .fieldAddr 81 (.tmp 25) 5, 0, none, true⟩, ⟨none, .store 3 (.tmp 26) (.tmp 20), 0, none, true⟩])
noncomputable def f22 : AFn := ⟨27, [], b22⟩
/-- (*novation/tape.Tape).Down -/
noncomputable def b23 : AC :=
  .seq (.region [⟨some 2, .assign (.const (.bool false)), 4, none, true⟩])
  (.seq (.region [⟨some 3, .move (.tmp 0), 32, none, true⟩, ⟨some 4, .binOp .neq 32 (.tmp 3) (.const (.pointer none)) 32, 4, none, true⟩, ⟨some 5, .move (.tmp 4), 4, none, true⟩, ⟨some 6, .move (.tmp 0), 32, some (some 5), true⟩, ⟨some 7, .nilCheck (.tmp 6), 0, some (some 5), true⟩, ⟨some 8, .fieldAddr 81 (.tmp 7) 3, 0, some (some 5), true⟩, ⟨some 9, .load 4 (.tmp 8), 4, some (some 5), true⟩, ⟨some 10, .pick (.tmp 5) (.tmp 9) (.const (.bool false)), 4, none, true⟩, ⟨some 2, .assign (.tmp 10), 4, none, true⟩])
  .ret)
noncomputable def f23 : AFn := ⟨11, [.tmp 2], b23⟩
/-- (*novation/tape.Tape).Wake -/
noncomputable def b24 : AC :=
  .seq (.region [⟨some 2, .move (.tmp 0), 32, none, true⟩, ⟨some 3, .binOp .neq 32 (.tmp 2) (.const (.pointer none)) 32, 4, none, true⟩])
  (.cond (.tmp 3) (.region [⟨some 4, .move (.tmp 0), 32, none, true⟩, ⟨some 5, .move (.tmp 0), 32, none, true⟩, ⟨some 6, .nilCheck (.tmp 4), 0, none, true⟩, ⟨some 7, .fieldAddr 81 (.tmp 6) 2, 0, none, true⟩, ⟨none, .store 4 (.tmp 7) (.const (.bool false)), 0, none, true⟩, ⟨some 8, .nilCheck (.tmp 5), 0, none, true⟩, ⟨some 9, .fieldAddr 81 (.tmp 8) 3, 0, none, true⟩, ⟨none, .store 4 (.tmp 9) (.const (.bool false)), 0, none, true⟩]) .skip)
noncomputable def f24 : AFn := ⟨10, [], b24⟩
/-- novation/novationref4.NewTape -/
noncomputable def b25 : AC :=
  .seq (.region [⟨some 2, .assign (.const (.pointer none)), 57, none, true⟩])
  (.seq (.region [⟨some 3, .move (.tmp 0), 3, none, true⟩, ⟨some 4, .call (⟨.builtin .max, #[.tmp 3, .const (.int .i64 0)], #[3, 3]⟩), 3, none, true⟩, ⟨some 5, .call (⟨.builtin .min, #[.tmp 4, .const (.int .i64 1048576)], #[3, 3]⟩), 3, none, true⟩, ⟨some 6, .build 94 #[(1, .tmp 5)], 94, none, true⟩, ⟨some 7, .box 94 (.tmp 6), 57, none, true⟩, ⟨some 2, .assign (.tmp 7), 57, none, true⟩])
  .ret)
noncomputable def f25 : AFn := ⟨8, [.tmp 2], b25⟩
/-- (*novation/novationseat.Deck).Yes -/
noncomputable def b26 : AC :=
  .seq (.region [⟨some 4, .assign (.const (.bool false)), 4, none, true⟩])
  (.seq (.region [⟨some 5, .move (.tmp 0), 24, none, true⟩, ⟨some 6, .move (.tmp 1), 3, none, true⟩, ⟨some 7, .call (⟨.value (.func 29), #[.tmp 5, .tmp 6], #[24, 3]⟩), 3, none, true⟩, ⟨some 8, .move (.tmp 1), 3, none, true⟩, ⟨some 9, .binOp .sub 3 (.tmp 8) (.const (.int .i64 1)) 3, 3, none, true⟩, ⟨some 10, .binOp .eql 3 (.tmp 7) (.tmp 9) 3, 4, none, true⟩, ⟨some 4, .assign (.tmp 10), 4, none, true⟩])
  .ret)
noncomputable def f26 : AFn := ⟨11, [.tmp 4], b26⟩
/-- novation/novationref4.PutPlan -/
noncomputable def b27 : AC :=
  .seq (.region [⟨some 1, .box 28 (.tmp 0), 0, none, true⟩, ⟨some 2, .assign (.const (.slice none 0 0)), 41, none, true⟩, ⟨some 3, .assign (.const (.int .i64 0)), 34, none, true⟩])
  (.seq (.seq (.region [⟨some 9, .load 28 (.tmp 1), 28, none, true⟩, ⟨some 10, .call (⟨.value (.func 49), #[.tmp 9], #[28]⟩), 4, none, true⟩, ⟨some 11, .unOp .not 4 (.tmp 10), 4, none, true⟩])
  (.cond (.tmp 11) (.seq (.region [⟨some 2, .assign (.const (.slice none 0 0)), 41, none, true⟩, ⟨some 3, .assign (.const (.int .i64 1)), 34, none, true⟩])
  .ret) .skip))
  (.seq (.region [⟨some 12, .fieldAddr 28 (.tmp 1) 0, 0, none, true⟩, ⟨some 13, .load 26 (.tmp 12), 26, none, true⟩, ⟨some 14, .call (⟨.builtin .len, #[.tmp 13], #[26]⟩), 3, none, true⟩, ⟨some 15, .call (⟨.value (.func 50), #[.const (.slice none 0 0), .tmp 14], #[41, 2]⟩), 41, none, true⟩, ⟨some 4, .assign (.tmp 15), 41, none, true⟩])
  (.seq (.seq (.region [⟨some 5, .assign (.const (.int .i64 0)), 3, none, true⟩])
  (.block 0 (.loop [false, true, false, false, true, true, false, false, false, false, false, false, false, false, false, false, false, false, false, false, false, false, false, false, false, false, false, false, false, false, false, false, false, false, false, false, false, false, false, false, false, false, false, false, false, false, false, false, false, false, false, false, false, false, false, false, false, false, false, false, false, false, false, false, false, false, false] (.seq (.seq (.region [⟨some 16, .move (.tmp 5), 3, none, true⟩, ⟨some 17, .fieldAddr 28 (.tmp 1) 0, 0, none, true⟩, ⟨some 18, .load 26 (.tmp 17), 26, none, true⟩, ⟨some 19, .call (⟨.builtin .len, #[.tmp 18], #[26]⟩), 3, none, true⟩, ⟨some 20, .binOp .lss 3 (.tmp 16) (.tmp 19) 3, 4, none, true⟩])
  (.cond (.tmp 20) .skip (.exit 0)))
  (.seq (.block 1 (.seq (.region [⟨some 23, .fieldAddr 28 (.tmp 1) 0, 0, none, true⟩, ⟨some 24, .load 26 (.tmp 23), 26, none, true⟩, ⟨some 25, .move (.tmp 5), 3, none, true⟩, ⟨some 26, .indexAddr 26 (.tmp 24) (.tmp 25), 0, none, true⟩, ⟨some 27, .load 78 (.tmp 26), 78, none, true⟩, ⟨some 6, .alloc 78, 0, none, true⟩, ⟨none, .store 78 (.tmp 6) (.tmp 27), 0, none, true⟩])
  (.draw (drawOf T.c27 8) [0, 1, 2, 4, 5, 7, 8, 10, 11, 3, 6, 9, 12, 13] [[], [], [1], [0, 1, 2], [], [4], [0, 1, 2, 3, 4, 5], [], [7], [0, 1, 2, 3, 4, 5, 6, 7, 8], [], [10], [0, 1, 2, 3, 4, 5, 6, 7, 8, 9, 10, 11], [0, 1, 2, 3, 4, 5, 6, 7, 8, 9, 10, 11, 12]])))
  (.region [⟨some 21, .move (.tmp 5), 3, none, true⟩, ⟨some 22, .binOp .add 3 (.tmp 21) (.const (.int .i64 1)) 3, 3, none, true⟩, ⟨some 5, .assign (.tmp 22), 3, none, true⟩]))))))
  (.seq (.region [⟨some 41, .fieldAddr 28 (.tmp 1) 1, 0, none, true⟩, ⟨some 42, .load 2 (.tmp 41), 2, none, true⟩, ⟨some 43, .fieldAddr 28 (.tmp 1) 2, 0, none, true⟩, ⟨some 44, .load 3 (.tmp 43), 3, none, true⟩, ⟨some 45, .fieldAddr 28 (.tmp 1) 3, 0, none, true⟩, ⟨some 46, .load 2 (.tmp 45), 2, none, true⟩, ⟨some 47, .fieldAddr 28 (.tmp 1) 4, 0, none, true⟩, ⟨some 48, .load 2 (.tmp 47), 2, none, true⟩, ⟨some 49, .fieldAddr 28 (.tmp 1) 5, 0, none, true⟩, ⟨some 50, .load 2 (.tmp 49), 2, none, true⟩, ⟨some 51, .fieldAddr 28 (.tmp 1) 6, 0, none, true⟩, ⟨some 52, .load 2 (.tmp 51), 2, none, true⟩, ⟨some 53, .buildSlice 97 6 #[(0, .tmp 42), (1, .tmp 44), (2, .tmp 46), (3, .tmp 48), (4, .tmp 50), (5, .tmp 52)], 97, none, true⟩, ⟨some 7, .assign (.tmp 53), 97, none, true⟩])
  (.seq (.seq (.region [⟨some 8, .assign (.const (.int .i64 0)), 3, none, true⟩])
  (.block 2 (.loop [false, false, false, false, true, false, false, true, true, false, false, false, false, false, false, false, false, false, false, false, false, false, false, false, false, false, false, false, false, false, false, false, false, false, false, false, false, false, false, false, false, false, false, false, false, false, false, false, false, false, false, false, false, false, false, false, false, false, false, false, false, false, false, false, false, false, false] (.seq (.seq (.region [⟨some 54, .move (.tmp 8), 3, none, true⟩, ⟨some 55, .move (.tmp 7), 97, none, true⟩, ⟨some 56, .call (⟨.builtin .len, #[.tmp 55], #[97]⟩), 3, none, true⟩, ⟨some 57, .binOp .lss 3 (.tmp 54) (.tmp 56) 3, 4, none, true⟩])
  (.cond (.tmp 57) .skip (.exit 2)))
  (.seq (.block 3 (.region [⟨some 60, .move (.tmp 4), 41, none, true⟩, ⟨some 61, .move (.tmp 7), 97, none, true⟩, ⟨some 62, .move (.tmp 8), 3, none, true⟩, ⟨some 63, .indexAddr 97 (.tmp 61) (.tmp 62), 0, none, true⟩, ⟨some 64, .load 2 (.tmp 63), 2, none, true⟩, ⟨some 65, .call (⟨.value (.func 50), #[.tmp 60, .tmp 64], #[41, 2]⟩), 41, none, true⟩, ⟨some 4, .assign (.tmp 65), 41, none, true⟩]))
  (.region [⟨some 58, .move (.tmp 8), 3, none, true⟩, ⟨some 59, .binOp .add 3 (.tmp 58) (.const (.int .i64 1)) 3, 3, none, true⟩, ⟨some 8, .assign (.tmp 59), 3, none, true⟩]))))))
  (.seq (.region [⟨some 66, .move (.tmp 4), 41, none, true⟩, ⟨some 2, .assign (.tmp 66), 41, none, true⟩, ⟨some 3, .assign (.const (.int .i64 0)), 34, none, true⟩])
  .ret))))))
noncomputable def f27 : AFn := ⟨67, [.tmp 2, .tmp 3], b27⟩
/-- novation/novationref4.Frame -/
noncomputable def b28 : AC :=
  .seq (.region [⟨some 2, .assign (.const (.slice none 0 0)), 41, none, true⟩, ⟨some 3, .assign (.const (.int .i64 0)), 34, none, true⟩])
  (.seq (.seq (.region [⟨some 6, .move (.tmp 0), 41, none, true⟩, ⟨some 7, .call (⟨.builtin .len, #[.tmp 6], #[41]⟩), 3, none, true⟩, ⟨some 8, .binOp .gtr 3 (.tmp 7) (.const (.int .i64 400)) 3, 4, none, true⟩])
  (.cond (.tmp 8) (.seq (.region [⟨some 2, .assign (.const (.slice none 0 0)), 41, none, true⟩, ⟨some 3, .assign (.const (.int .i64 1)), 34, none, true⟩])
  .ret) .skip))
  (.seq (.region [⟨some 9, .move (.tmp 0), 41, none, true⟩, ⟨some 10, .call (⟨.builtin .len, #[.tmp 9], #[41]⟩), 3, none, true⟩, ⟨some 11, .binOp .quo 3 (.tmp 10) (.const (.int .i64 256)) 3, 3, none, true⟩, ⟨some 12, .convert 3 5 (.tmp 11), 5, none, true⟩, ⟨some 13, .move (.tmp 0), 41, none, true⟩, ⟨some 14, .call (⟨.builtin .len, #[.tmp 13], #[41]⟩), 3, none, true⟩, ⟨some 15, .binOp .rem 3 (.tmp 14) (.const (.int .i64 256)) 3, 3, none, true⟩, ⟨some 16, .convert 3 5 (.tmp 15), 5, none, true⟩, ⟨some 17, .buildSlice 41 2 #[(0, .tmp 12), (1, .tmp 16)], 41, none, true⟩, ⟨some 18, .move (.tmp 0), 41, none, true⟩, ⟨some 19, .call (⟨.builtin .append, #[.tmp 17, .tmp 18], #[41, 41]⟩), 41, none, true⟩, ⟨some 4, .assign (.tmp 19), 41, none, true⟩])
  (.seq (.region [⟨some 20, .move (.tmp 4), 41, none, true⟩, ⟨some 21, .call (⟨.value (.func 51), #[.tmp 20], #[41]⟩), 98, none, true⟩, ⟨some 5, .assign (.tmp 21), 98, none, true⟩])
  (.seq (.region [⟨some 22, .move (.tmp 4), 41, none, true⟩, ⟨some 23, .move (.tmp 5), 98, none, true⟩, ⟨some 24, .binOp .and 98 (.tmp 23) (.const (.int .u32 255)) 98, 98, none, true⟩, ⟨some 25, .convert 98 5 (.tmp 24), 5, none, true⟩, ⟨some 26, .move (.tmp 5), 98, none, true⟩, ⟨some 27, .binOp .shr 98 (.tmp 26) (.const (.int .u64 8)) 100, 98, none, true⟩, ⟨some 28, .binOp .and 98 (.tmp 27) (.const (.int .u32 255)) 98, 98, none, true⟩, ⟨some 29, .convert 98 5 (.tmp 28), 5, none, true⟩, ⟨some 30, .move (.tmp 5), 98, none, true⟩, ⟨some 31, .binOp .shr 98 (.tmp 30) (.const (.int .u64 16)) 100, 98, none, true⟩, ⟨some 32, .binOp .and 98 (.tmp 31) (.const (.int .u32 255)) 98, 98, none, true⟩, ⟨some 33, .convert 98 5 (.tmp 32), 5, none, true⟩, ⟨some 34, .move (.tmp 5), 98, none, true⟩, ⟨some 35, .binOp .shr 98 (.tmp 34) (.const (.int .u64 24)) 100, 98, none, true⟩, ⟨some 36, .convert 98 5 (.tmp 35), 5, none, true⟩, ⟨some 37, .buildSlice 41 4 #[(0, .tmp 25), (1, .tmp 29), (2, .tmp 33), (3, .tmp 36)], 41, none, true⟩, ⟨some 38, .call (⟨.builtin .append, #[.tmp 22, .tmp 37], #[41, 41]⟩), 41, none, true⟩, ⟨some 2, .assign (.tmp 38), 41, none, true⟩, ⟨some 3, .assign (.const (.int .i64 0)), 34, none, true⟩])
  .ret))))
noncomputable def f28 : AFn := ⟨39, [.tmp 2, .tmp 3], b28⟩
/-- (*novation/novationseat.Deck).N -/
noncomputable def b29 : AC :=
  .seq (.region [⟨some 4, .assign (.const (.int .i64 0)), 3, none, true⟩])
  (.seq (.region [⟨some 5, .move (.tmp 0), 24, none, true⟩, ⟨some 6, .call (⟨.value (.func 52), #[.tmp 5], #[24]⟩), 70, none, true⟩, ⟨some 7, .move (.tmp 1), 3, none, true⟩, ⟨some 8, .convert 3 70 (.tmp 7), 70, none, true⟩, ⟨some 9, .binOp .rem 70 (.tmp 6) (.tmp 8) 70, 70, none, true⟩, ⟨some 10, .convert 70 3 (.tmp 9), 3, none, true⟩, ⟨some 4, .assign (.tmp 10), 3, none, true⟩])
  .ret)
noncomputable def f29 : AFn := ⟨11, [.tmp 4], b29⟩
/-- novation/novationref4.PutEvent -/
noncomputable def b30 : AC :=
  .seq (.region [⟨some 1, .box 38 (.tmp 0), 0, none, true⟩, ⟨some 2, .assign (.const (.slice none 0 0)), 41, none, true⟩, ⟨some 3, .assign (.const (.int .i64 0)), 34, none, true⟩])
  (.seq (.seq (.region [⟨some 7, .load 38 (.tmp 1), 38, none, true⟩, ⟨some 8, .call (⟨.value (.func 53), #[.tmp 7], #[38]⟩), 4, none, true⟩, ⟨some 9, .unOp .not 4 (.tmp 8), 4, none, true⟩])
  (.cond (.tmp 9) (.seq (.region [⟨some 2, .assign (.const (.slice none 0 0)), 41, none, true⟩, ⟨some 3, .assign (.const (.int .i64 1)), 34, none, true⟩])
  .ret) .skip))
  (.seq (.region [⟨some 10, .fieldAddr 38 (.tmp 1) 0, 0, none, true⟩, ⟨some 11, .load 3 (.tmp 10), 3, none, true⟩, ⟨some 12, .convert 3 5 (.tmp 11), 5, none, true⟩, ⟨some 13, .buildSlice 41 1 #[(0, .tmp 12)], 41, none, true⟩, ⟨some 4, .assign (.tmp 13), 41, none, true⟩])
  (.seq (.region [⟨some 14, .fieldAddr 38 (.tmp 1) 0, 0, none, true⟩, ⟨some 15, .load 3 (.tmp 14), 3, none, true⟩, ⟨some 16, .call (⟨.value (.func 54), #[.tmp 15], #[3]⟩), 9, none, true⟩, ⟨some 5, .assign (.tmp 16), 9, none, true⟩])
  (.seq (.seq (.region [⟨some 6, .assign (.const (.int .i64 0)), 3, none, true⟩])
  (.block 0 (.loop [false, true, false, false, true, true, true, false, false, false, false, false, false, false, false, false, false, false, false, false, false, false, false, false, false, false, false, false, false, false, false] (.seq (.seq (.region [⟨some 17, .move (.tmp 6), 3, none, true⟩, ⟨some 18, .move (.tmp 5), 9, none, true⟩, ⟨some 19, .call (⟨.builtin .len, #[.tmp 18], #[9]⟩), 3, none, true⟩, ⟨some 20, .binOp .lss 3 (.tmp 17) (.tmp 19) 3, 4, none, true⟩])
  (.cond (.tmp 20) .skip (.exit 0)))
  (.seq (.block 1 (.draw (drawOf T.c30 8) [0, 1, 2, 3, 4, 5, 6, 7] [[], [], [], [], [2, 3], [1, 2, 3, 4], [0, 1, 2, 3, 4, 5], [0, 1, 2, 3, 4, 5, 6]]))
  (.region [⟨some 21, .move (.tmp 6), 3, none, true⟩, ⟨some 22, .binOp .add 3 (.tmp 21) (.const (.int .i64 1)) 3, 3, none, true⟩, ⟨some 6, .assign (.tmp 22), 3, none, true⟩]))))))
  (.seq (.region [⟨some 30, .move (.tmp 4), 41, none, true⟩, ⟨some 2, .assign (.tmp 30), 41, none, true⟩, ⟨some 3, .assign (.const (.int .i64 0)), 34, none, true⟩])
  .ret)))))
noncomputable def f30 : AFn := ⟨31, [.tmp 2, .tmp 3], b30⟩
/-- (*novation/novationseat.Deck).Event -/
noncomputable def b31 : AC :=
  .seq (.region [⟨some 3, .box 28 (.tmp 1), 0, none, true⟩, ⟨some 4, .alloc 38, 0, none, true⟩])
  (.seq (.draw (drawOf T.c31 1) [0, 3, 6, 7, 8, 9, 1, 2, 4, 5, 10, 11, 12, 13] [[], [0], [0, 1], [], [0, 1, 3], [0, 1, 3, 4], [], [], [7], [7, 8], [0, 1, 3, 4, 6, 7, 8, 9], [0, 1, 2, 3, 4, 6, 7, 8, 9, 10], [0, 1, 2, 3, 4, 5, 6, 7, 8, 9, 10, 11], [0, 1, 2, 3, 4, 5, 6, 7, 8, 9, 10, 11, 12]])
  (.seq (.seq (.region [⟨some 20, .move (.tmp 0), 24, none, true⟩, ⟨some 21, .call (⟨.value (.func 29), #[.tmp 20, .const (.int .i64 36)], #[24, 3]⟩), 3, none, true⟩, ⟨some 22, .binOp .add 3 (.const (.int .i64 1)) (.tmp 21) 3, 3, none, true⟩, ⟨some 8, .assign (.tmp 22), 3, none, true⟩])
  (.seq (.region [⟨some 23, .move (.tmp 8), 3, none, true⟩])
  (.block 0 (.seq (.seq (.region [⟨some 25, .binOp .eql 3 (.tmp 23) (.const (.int .i64 1)) 3, 4, none, true⟩, ⟨some 24, .assign (.tmp 25), 4, none, true⟩])
  (.cond (.tmp 24) .skip (.seq (.region [⟨some 26, .binOp .eql 3 (.tmp 23) (.const (.int .i64 11)) 3, 4, none, true⟩, ⟨some 24, .assign (.tmp 26), 4, none, true⟩])
  (.cond (.tmp 24) .skip (.seq (.region [⟨some 27, .binOp .eql 3 (.tmp 23) (.const (.int .i64 12)) 3, 4, none, true⟩, ⟨some 24, .assign (.tmp 27), 4, none, true⟩])
  (.cond (.tmp 24) .skip (.region [⟨some 28, .binOp .eql 3 (.tmp 23) (.const (.int .i64 13)) 3, 4, none, true⟩, ⟨some 24, .assign (.tmp 28), 4, none, true⟩])))))))
  (.cond (.tmp 24) (.seq (.region [⟨some 29, .move (.tmp 8), 3, none, true⟩, ⟨some 30, .move (.tmp 5), 3, none, true⟩, ⟨some 31, .build 38 #[(0, .tmp 29), (1, .tmp 30)], 38, none, true⟩, ⟨none, .store 38 (.tmp 4) (.tmp 31), 0, none, true⟩])
  .ret) (.seq (.region [⟨some 33, .binOp .eql 3 (.tmp 23) (.const (.int .i64 2)) 3, 4, none, true⟩, ⟨some 32, .assign (.tmp 33), 4, none, true⟩])
  (.cond (.tmp 32) (.seq (.region [⟨some 34, .move (.tmp 8), 3, none, true⟩, ⟨some 35, .move (.tmp 5), 3, none, true⟩, ⟨some 36, .move (.tmp 6), 3, none, true⟩, ⟨some 37, .move (.tmp 0), 24, none, true⟩, ⟨some 38, .call (⟨.value (.func 29), #[.tmp 37, .const (.int .i64 2)], #[24, 3]⟩), 3, none, true⟩, ⟨some 39, .binOp .add 3 (.const (.int .i64 1)) (.tmp 38) 3, 3, none, true⟩, ⟨some 40, .build 38 #[(0, .tmp 34), (1, .tmp 35), (2, .tmp 36), (4, .tmp 39)], 38, none, true⟩, ⟨none, .store 38 (.tmp 4) (.tmp 40), 0, none, true⟩])
  .ret) (.seq (.seq (.region [⟨some 42, .binOp .eql 3 (.tmp 23) (.const (.int .i64 3)) 3, 4, none, true⟩, ⟨some 41, .assign (.tmp 42), 4, none, true⟩])
  (.cond (.tmp 41) .skip (.region [⟨some 43, .binOp .eql 3 (.tmp 23) (.const (.int .i64 4)) 3, 4, none, true⟩, ⟨some 41, .assign (.tmp 43), 4, none, true⟩])))
  (.cond (.tmp 41) (.seq (.region [⟨some 44, .move (.tmp 8), 3, none, true⟩, ⟨some 45, .move (.tmp 6), 3, none, true⟩, ⟨some 46, .move (.tmp 0), 24, none, true⟩, ⟨some 47, .call (⟨.value (.func 38), #[.tmp 46], #[24]⟩), 2, none, true⟩, ⟨some 48, .call (⟨.builtin .max, #[.tmp 47, .const (.int .i64 1)], #[2, 2]⟩), 2, none, true⟩, ⟨some 49, .build 38 #[(0, .tmp 44), (2, .tmp 45), (6, .tmp 48)], 38, none, true⟩, ⟨none, .store 38 (.tmp 4) (.tmp 49), 0, none, true⟩])
  .ret) (.seq (.seq (.region [⟨some 51, .binOp .eql 3 (.tmp 23) (.const (.int .i64 5)) 3, 4, none, true⟩, ⟨some 50, .assign (.tmp 51), 4, none, true⟩])
  (.cond (.tmp 50) .skip (.region [⟨some 52, .binOp .eql 3 (.tmp 23) (.const (.int .i64 22)) 3, 4, none, true⟩, ⟨some 50, .assign (.tmp 52), 4, none, true⟩])))
  (.cond (.tmp 50) (.seq (.region [⟨some 53, .move (.tmp 8), 3, none, true⟩, ⟨some 54, .move (.tmp 5), 3, none, true⟩, ⟨some 55, .move (.tmp 0), 24, none, true⟩, ⟨some 56, .call (⟨.value (.func 38), #[.tmp 55], #[24]⟩), 2, none, true⟩, ⟨some 57, .call (⟨.builtin .max, #[.tmp 56, .const (.int .i64 1)], #[2, 2]⟩), 2, none, true⟩, ⟨some 58, .build 38 #[(0, .tmp 53), (1, .tmp 54), (6, .tmp 57)], 38, none, true⟩, ⟨none, .store 38 (.tmp 4) (.tmp 58), 0, none, true⟩])
  .ret) (.seq (.region [⟨some 60, .binOp .eql 3 (.tmp 23) (.const (.int .i64 6)) 3, 4, none, true⟩, ⟨some 59, .assign (.tmp 60), 4, none, true⟩])
  (.cond (.tmp 59) (.seq (.region [⟨some 61, .move (.tmp 8), 3, none, true⟩, ⟨some 62, .move (.tmp 6), 3, none, true⟩, ⟨some 63, .move (.tmp 0), 24, none, true⟩, ⟨some 64, .call (⟨.value (.func 38), #[.tmp 63], #[24]⟩), 2, none, true⟩, ⟨some 65, .binOp .rem 2 (.tmp 64) (.const (.int .i64 1000000000001)) 2, 2, none, true⟩, ⟨some 66, .build 38 #[(0, .tmp 61), (2, .tmp 62), (6, .tmp 65)], 38, none, true⟩, ⟨none, .store 38 (.tmp 4) (.tmp 66), 0, none, true⟩])
  .ret) (.seq (.region [⟨some 68, .binOp .eql 3 (.tmp 23) (.const (.int .i64 8)) 3, 4, none, true⟩, ⟨some 67, .assign (.tmp 68), 4, none, true⟩])
  (.cond (.tmp 67) (.seq (.region [⟨some 69, .move (.tmp 8), 3, none, true⟩, ⟨some 70, .move (.tmp 6), 3, none, true⟩, ⟨some 71, .move (.tmp 0), 24, none, true⟩, ⟨some 72, .call (⟨.value (.func 29), #[.tmp 71, .const (.int .i64 40)], #[24, 3]⟩), 3, none, true⟩, ⟨some 73, .binOp .add 2 (.const (.int .i64 1)) (.tmp 72) 2, 2, none, true⟩, ⟨some 74, .build 38 #[(0, .tmp 69), (2, .tmp 70), (5, .tmp 73)], 38, none, true⟩, ⟨none, .store 38 (.tmp 4) (.tmp 74), 0, none, true⟩])
  .ret) (.seq (.region [⟨some 76, .binOp .eql 3 (.tmp 23) (.const (.int .i64 9)) 3, 4, none, true⟩, ⟨some 75, .assign (.tmp 76), 4, none, true⟩])
  (.cond (.tmp 75) (.seq (.region [⟨some 77, .move (.tmp 0), 24, none, true⟩, ⟨some 78, .load 28 (.tmp 3), 28, none, true⟩, ⟨some 79, .move (.tmp 7), 3, none, true⟩, ⟨some 80, .call (⟨.value (.func 56), #[.tmp 77, .tmp 78, .tmp 79], #[24, 28, 3]⟩), 38, none, true⟩, ⟨none, .store 38 (.tmp 4) (.tmp 80), 0, none, true⟩])
  .ret) (.seq (.region [⟨some 82, .binOp .eql 3 (.tmp 23) (.const (.int .i64 10)) 3, 4, none, true⟩, ⟨some 81, .assign (.tmp 82), 4, none, true⟩])
  (.cond (.tmp 81) (.seq (.region [⟨some 83, .move (.tmp 8), 3, none, true⟩, ⟨some 84, .move (.tmp 0), 24, none, true⟩, ⟨some 85, .call (⟨.value (.func 29), #[.tmp 84, .const (.int .i64 3)], #[24, 3]⟩), 3, none, true⟩, ⟨some 86, .binOp .add 2 (.const (.int .i64 1)) (.tmp 85) 2, 2, none, true⟩, ⟨some 87, .build 38 #[(0, .tmp 83), (6, .tmp 86)], 38, none, true⟩, ⟨none, .store 38 (.tmp 4) (.tmp 87), 0, none, true⟩])
  .ret) (.seq (.region [⟨some 89, .binOp .eql 3 (.tmp 23) (.const (.int .i64 14)) 3, 4, none, true⟩, ⟨some 88, .assign (.tmp 89), 4, none, true⟩])
  (.cond (.tmp 88) (.seq (.region [⟨some 90, .move (.tmp 8), 3, none, true⟩, ⟨some 91, .move (.tmp 5), 3, none, true⟩, ⟨some 92, .move (.tmp 6), 3, none, true⟩, ⟨some 93, .build 38 #[(0, .tmp 90), (1, .tmp 91), (2, .tmp 92)], 38, none, true⟩, ⟨none, .store 38 (.tmp 4) (.tmp 93), 0, none, true⟩])
  .ret) (.seq (.seq (.region [⟨some 95, .binOp .eql 3 (.tmp 23) (.const (.int .i64 15)) 3, 4, none, true⟩, ⟨some 94, .assign (.tmp 95), 4, none, true⟩])
  (.cond (.tmp 94) .skip (.seq (.region [⟨some 96, .binOp .eql 3 (.tmp 23) (.const (.int .i64 16)) 3, 4, none, true⟩, ⟨some 94, .assign (.tmp 96), 4, none, true⟩])
  (.cond (.tmp 94) .skip (.seq (.region [⟨some 97, .binOp .eql 3 (.tmp 23) (.const (.int .i64 18)) 3, 4, none, true⟩, ⟨some 94, .assign (.tmp 97), 4, none, true⟩])
  (.cond (.tmp 94) .skip (.seq (.region [⟨some 98, .binOp .eql 3 (.tmp 23) (.const (.int .i64 20)) 3, 4, none, true⟩, ⟨some 94, .assign (.tmp 98), 4, none, true⟩])
  (.cond (.tmp 94) .skip (.region [⟨some 99, .binOp .eql 3 (.tmp 23) (.const (.int .i64 21)) 3, 4, none, true⟩, ⟨some 94, .assign (.tmp 99), 4, none, true⟩])))))))))
  (.cond (.tmp 94) (.seq (.region [⟨some 100, .move (.tmp 8), 3, none, true⟩, ⟨some 101, .build 38 #[(0, .tmp 100)], 38, none, true⟩, ⟨none, .store 38 (.tmp 4) (.tmp 101), 0, none, true⟩])
  .ret) (.seq (.region [⟨some 103, .binOp .eql 3 (.tmp 23) (.const (.int .i64 17)) 3, 4, none, true⟩, ⟨some 102, .assign (.tmp 103), 4, none, true⟩])
  (.cond (.tmp 102) (.seq (.draw (drawOf T.c31 34) [0, 1, 2, 5, 8, 9, 10, 11, 12, 13, 3, 4, 6, 7, 14, 15] [[], [], [], [2], [2, 3], [], [2, 3, 5], [2, 3, 5, 6], [], [8], [], [8, 9, 10], [8, 9, 10, 11], [8, 9, 10, 11, 12], [0, 1, 2, 3, 4, 5, 6, 7, 8, 9, 10, 11, 12, 13], [0, 1, 2, 3, 4, 5, 6, 7, 8, 9, 10, 11, 12, 13, 14]])
  .ret) (.seq (.region [⟨some 120, .binOp .eql 3 (.tmp 23) (.const (.int .i64 19)) 3, 4, none, true⟩, ⟨some 119, .assign (.tmp 120), 4, none, true⟩])
  (.cond (.tmp 119) (.seq (.region [⟨some 121, .move (.tmp 8), 3, none, true⟩, ⟨some 122, .move (.tmp 5), 3, none, true⟩, ⟨some 123, .move (.tmp 0), 24, none, true⟩, ⟨some 124, .call (⟨.value (.func 29), #[.tmp 123, .const (.int .i64 60)], #[24, 3]⟩), 3, none, true⟩, ⟨some 125, .binOp .add 2 (.const (.int .i64 1)) (.tmp 124) 2, 2, none, true⟩, ⟨some 126, .move (.tmp 0), 24, none, true⟩, ⟨some 127, .call (⟨.value (.func 29), #[.tmp 126, .const (.int .i64 80)], #[24, 3]⟩), 3, none, true⟩, ⟨some 128, .binOp .sub 2 (.tmp 127) (.const (.int .i64 60)) 2, 2, none, true⟩, ⟨some 129, .build 38 #[(0, .tmp 121), (1, .tmp 122), (5, .tmp 125), (7, .tmp 128)], 38, none, true⟩, ⟨none, .store 38 (.tmp 4) (.tmp 129), 0, none, true⟩])
  .ret) .skip)))))))))))))))))))))))))))
  (.seq (.region [⟨some 130, .move (.tmp 0), 24, none, true⟩, ⟨some 131, .load 28 (.tmp 3), 28, none, true⟩, ⟨some 132, .call (⟨.value (.func 57), #[.tmp 130, .tmp 131], #[24, 28]⟩), 38, none, true⟩, ⟨none, .store 38 (.tmp 4) (.tmp 132), 0, none, true⟩])
  .ret)))
noncomputable def f31 : AFn := ⟨133, [.cell 4 38], b31⟩
/-- (*novation/tape.Tape).Append -/
noncomputable def b32 : AC :=
  .seq (.region [⟨some 4, .assign (.const (.int .i64 0)), 34, none, true⟩])
  (.seq (.block 0 (.seq (.region [⟨some 6, .move (.tmp 0), 32, none, true⟩, ⟨some 7, .binOp .eql 32 (.tmp 6) (.const (.pointer none)) 32, 4, none, true⟩, ⟨some 5, .assign (.tmp 7), 4, none, true⟩])
  (.cond (.tmp 5) (.seq (.region [⟨some 4, .assign (.const (.int .i64 3)), 34, none, true⟩])
  .ret) (.seq (.region [⟨some 9, .move (.tmp 0), 32, none, true⟩, ⟨some 10, .nilCheck (.tmp 9), 0, none, true⟩, ⟨some 11, .fieldAddr 81 (.tmp 10) 3, 0, none, true⟩, ⟨some 12, .load 4 (.tmp 11), 4, none, true⟩, ⟨some 8, .assign (.tmp 12), 4, none, true⟩])
  (.cond (.tmp 8) (.seq (.region [⟨some 4, .assign (.const (.int .i64 15)), 34, none, true⟩])
  .ret) (.seq (.draw (drawOf T.c32 5) [0, 1, 2, 3, 4, 5, 6, 7, 8, 9, 10, 11, 12, 13] [[], [0], [0, 1], [0, 1, 2], [0, 1, 2, 3], [], [5], [0, 1, 2, 3, 4, 5, 6], [], [8], [8, 9], [8, 9, 10], [0, 1, 2, 3, 4, 5, 6, 7, 8, 9, 10, 11], [0, 1, 2, 3, 4, 5, 6, 7, 8, 9, 10, 11, 12]])
  (.cond (.tmp 13) (.seq (.region [⟨some 4, .assign (.const (.int .i64 14)), 34, none, true⟩])
  .ret) (.seq (.region [⟨some 28, .move (.tmp 0), 32, none, true⟩, ⟨some 29, .call (⟨.value (.func 48), #[.tmp 28], #[32]⟩), 4, none, true⟩, ⟨some 27, .assign (.tmp 29), 4, none, true⟩])
  (.cond (.tmp 27) (.seq (.draw (drawOf T.c32 8) [0, 1, 2, 3, 4, 5, 6, 7, 8, 9, 10, 11, 12, 13, 14, 15, 16, 17, 18] [[], [], [1], [1, 2], [1, 2, 3], [], [], [6], [6, 7], [6, 7, 8], [6, 7, 8, 9], [], [11], [6, 7, 8, 9, 10, 11, 12], [5, 6, 7, 8, 9, 10, 11, 12, 13], [1, 2, 3, 4, 5, 6, 7, 8, 9, 10, 11, 12, 13, 14], [0, 1, 2, 3, 4, 5, 6, 7, 8, 9, 10, 11, 12, 13, 14, 15], [0, 1, 2, 3, 4, 5, 6, 7, 8, 9, 10, 11, 12, 13, 14, 15, 16], [0, 1, 2, 3, 4, 5, 6, 7, 8, 9, 10, 11, 12, 13, 14, 15, 16, 17]])
  (.seq (.region [⟨some 4, .assign (.const (.int .i64 15)), 34, none, true⟩])
  .ret)) .skip)))))))))
  (.seq (.region [⟨some 48, .move (.tmp 0), 32, none, true⟩, ⟨some 49, .move (.tmp 0), 32, none, true⟩, ⟨some 50, .nilCheck (.tmp 49), 0, none, true⟩, ⟨some 51, .fieldAddr 81 (.tmp 50) 0, 0, none, true⟩, ⟨some 52, .load 41 (.tmp 51), 41, none, true⟩, ⟨some 53, .move (.tmp 1), 41, none, true⟩, ⟨some 54, .call (⟨.builtin .append, #[.tmp 52, .tmp 53], #[41, 41]⟩), 41, none, true⟩, ⟨some 55, .nilCheck (.tmp 48), 0, none, true⟩, ⟨some 56, .fieldAddr 81 (.tmp 55) 0, 0, none, true⟩, ⟨none, .store 41 (.tmp 56) (.tmp 54), 0, none, true⟩])
  (.seq (.region [⟨some 4, .assign (.const (.int .i64 0)), 34, none, true⟩])
  .ret)))
noncomputable def f32 : AFn := ⟨57, [.tmp 4], b32⟩
/-- (*novation/novationref4.Tape).Append -/
noncomputable def b33 : AC :=
  .seq (.region [⟨some 4, .assign (.const (.int .i64 0)), 34, none, true⟩])
  (.seq (.seq (.region [⟨some 5, .move (.tmp 0), 57, none, true⟩, ⟨some 6, .nilCheck (.tmp 5), 0, none, true⟩, ⟨some 7, .fieldAddr 94 (.tmp 6) 5, 0, none, true⟩, ⟨some 8, .load 4 (.tmp 7), 4, none, true⟩])
  (.cond (.tmp 8) (.seq (.region [⟨some 4, .assign (.const (.int .i64 15)), 34, none, true⟩])
  .ret) .skip))
  (.seq (.seq (.draw (drawOf T.c33 3) [0, 1, 2, 3, 4, 5, 6, 7, 8, 9, 10, 11, 12] [[], [0], [], [2], [2, 3], [2, 3, 4], [], [6], [6, 7], [6, 7, 8], [6, 7, 8, 9], [2, 3, 4, 5, 6, 7, 8, 9, 10], [0, 1, 2, 3, 4, 5, 6, 7, 8, 9, 10, 11]])
  (.cond (.tmp 21) (.seq (.region [⟨some 4, .assign (.const (.int .i64 14)), 34, none, true⟩])
  .ret) .skip))
  (.seq (.seq (.region [⟨some 22, .move (.tmp 0), 57, none, true⟩, ⟨some 23, .call (⟨.value (.func 58), #[.tmp 22], #[57]⟩), 4, none, true⟩])
  (.cond (.tmp 23) (.seq (.draw (drawOf T.c33 6) [1, 0, 2, 3, 4, 5, 7, 8, 9, 10, 11, 12, 13, 14, 15, 16, 6, 17, 18, 19, 20] [[], [], [], [2], [2, 3], [2, 3, 4], [1, 2, 3, 4, 5], [], [], [8], [8, 9], [8, 9, 10], [8, 9, 10, 11], [], [13], [8, 9, 10, 11, 12, 13, 14], [7, 8, 9, 10, 11, 12, 13, 14, 15], [1, 2, 3, 4, 5, 6, 7, 8, 9, 10, 11, 12, 13, 14, 15, 16], [0, 1, 2, 3, 4, 5, 6, 7, 8, 9, 10, 11, 12, 13, 14, 15, 16, 17], [0, 1, 2, 3, 4, 5, 6, 7, 8, 9, 10, 11, 12, 13, 14, 15, 16, 17, 18], [0, 1, 2, 3, 4, 5, 6, 7, 8, 9, 10, 11, 12, 13, 14, 15, 16, 17, 18, 19]])
  (.seq (.region [⟨some 4, .assign (.const (.int .i64 15)), 34, none, true⟩])
  .ret)) .skip))
  (.seq (.region [⟨some 44, .move (.tmp 0), 57, none, true⟩, ⟨some 45, .buildSlice 41 0 #[], 41, none, true⟩, ⟨some 46, .move (.tmp 0), 57, none, true⟩, ⟨some 47, .nilCheck (.tmp 46), 0, none, true⟩, ⟨some 48, .fieldAddr 94 (.tmp 47) 0, 0, none, true⟩, ⟨some 49, .load 41 (.tmp 48), 41, none, true⟩, ⟨some 50, .call (⟨.builtin .append, #[.tmp 45, .tmp 49], #[41, 41]⟩), 41, none, true⟩, ⟨some 51, .move (.tmp 1), 41, none, true⟩, ⟨some 52, .call (⟨.builtin .append, #[.tmp 50, .tmp 51], #[41, 41]⟩), 41, none, true⟩, ⟨some 53, .nilCheck (.tmp 44), 0, none, true⟩, ⟨some 54, .fieldAddr 94 (.tmp 53) 0, 0, none, true⟩, ⟨none, .store 41 (.tmp 54) (.tmp 52), 0, none, true⟩])
  (.seq (.region [⟨some 4, .assign (.const (.int .i64 0)), 34, none, true⟩])
  .ret)))))
noncomputable def f33 : AFn := ⟨55, [.tmp 4], b33⟩
/-- novation/novationref4.OpenJournal -/
noncomputable def b34 : AC :=
  .seq (.region [⟨some 2, .alloc 28, 0, none, true⟩, ⟨some 3, .assign (.const (.slice none 0 0)), 30, none, true⟩, ⟨some 4, .assign (.const (.int .i64 0)), 34, none, true⟩])
  (.seq (.region [⟨some 16, .move (.tmp 0), 57, none, true⟩, ⟨some 17, .call (⟨.value (.func 59), #[.tmp 16], #[57]⟩), 42, none, true⟩, ⟨some 15, .move (.tmp 17), 42, none, true⟩, ⟨some 18, .extract (.tmp 15) 0, 41, none, true⟩, ⟨some 19, .extract (.tmp 15) 1, 34, none, true⟩, ⟨some 5, .assign (.tmp 18), 41, none, true⟩, ⟨some 6, .assign (.tmp 19), 34, none, true⟩])
  (.seq (.seq (.region [⟨some 20, .move (.tmp 6), 34, none, true⟩, ⟨some 21, .binOp .neq 34 (.tmp 20) (.const (.int .i64 0)) 34, 4, none, true⟩])
  (.cond (.tmp 21) (.seq (.region [⟨some 22, .build 28 #[], 28, none, true⟩, ⟨some 23, .move (.tmp 6), 34, none, true⟩, ⟨none, .store 28 (.tmp 2) (.tmp 22), 0, none, true⟩, ⟨some 3, .assign (.const (.slice none 0 0)), 30, none, true⟩, ⟨some 4, .assign (.tmp 23), 34, none, true⟩])
  .ret) .skip))
  (.seq (.region [⟨some 25, .move (.tmp 5), 41, none, true⟩, ⟨some 26, .call (⟨.value (.func 60), #[.tmp 25], #[41]⟩), 107, none, true⟩, ⟨some 24, .move (.tmp 26), 107, none, true⟩, ⟨some 27, .extract (.tmp 24) 0, 52, none, true⟩, ⟨some 28, .extract (.tmp 24) 1, 106, none, true⟩, ⟨some 29, .extract (.tmp 24) 2, 3, none, true⟩, ⟨some 7, .assign (.tmp 27), 52, none, true⟩, ⟨some 8, .assign (.tmp 28), 106, none, true⟩, ⟨some 9, .assign (.tmp 29), 3, none, true⟩])
  (.seq (.seq (.region [⟨some 30, .move (.tmp 9), 3, none, true⟩, ⟨some 31, .move (.tmp 5), 41, none, true⟩, ⟨some 32, .call (⟨.builtin .len, #[.tmp 31], #[41]⟩), 3, none, true⟩, ⟨some 33, .binOp .lss 3 (.tmp 30) (.tmp 32) 3, 4, none, true⟩])
  (.cond (.tmp 33) (.seq (.region [⟨some 34, .move (.tmp 0), 57, none, true⟩, ⟨some 35, .move (.tmp 9), 3, none, true⟩, ⟨some 36, .call (⟨.value (.func 61), #[.tmp 34, .tmp 35], #[57, 3]⟩), 34, none, true⟩, ⟨some 10, .assign (.tmp 36), 34, none, true⟩])
  (.seq (.region [⟨some 37, .move (.tmp 10), 34, none, true⟩, ⟨some 38, .binOp .neq 34 (.tmp 37) (.const (.int .i64 0)) 34, 4, none, true⟩])
  (.cond (.tmp 38) (.seq (.region [⟨some 39, .build 28 #[], 28, none, true⟩, ⟨some 40, .move (.tmp 10), 34, none, true⟩, ⟨none, .store 28 (.tmp 2) (.tmp 39), 0, none, true⟩, ⟨some 3, .assign (.const (.slice none 0 0)), 30, none, true⟩, ⟨some 4, .assign (.tmp 40), 34, none, true⟩])
  .ret) .skip))) .skip))
  (.seq (.seq (.region [⟨some 41, .move (.tmp 8), 106, none, true⟩, ⟨some 42, .call (⟨.builtin .len, #[.tmp 41], #[106]⟩), 3, none, true⟩, ⟨some 43, .binOp .eql 3 (.tmp 42) (.const (.int .i64 0)) 3, 4, none, true⟩])
  (.cond (.tmp 43) (.seq (.region [⟨some 44, .build 28 #[], 28, none, true⟩, ⟨none, .store 28 (.tmp 2) (.tmp 44), 0, none, true⟩, ⟨some 3, .assign (.const (.slice none 0 0)), 30, none, true⟩, ⟨some 4, .assign (.const (.int .i64 3)), 34, none, true⟩])
  .ret) .skip))
  (.seq (.region [⟨some 46, .move (.tmp 5), 41, none, true⟩, ⟨some 47, .call (⟨.value (.func 62), #[.tmp 46], #[41]⟩), 109, none, true⟩, ⟨some 45, .move (.tmp 47), 109, none, true⟩, ⟨some 48, .extract (.tmp 45) 0, 28, none, true⟩, ⟨some 49, .extract (.tmp 45) 1, 30, none, true⟩, ⟨some 50, .extract (.tmp 45) 2, 3, none, true⟩, ⟨some 51, .extract (.tmp 45) 3, 4, none, true⟩, ⟨some 11, .alloc 28, 0, none, true⟩, ⟨none, .store 28 (.tmp 11) (.tmp 48), 0, none, true⟩, ⟨some 12, .assign (.tmp 49), 30, none, true⟩, ⟨some 13, .assign (.tmp 50), 3, none, true⟩, ⟨some 14, .assign (.tmp 51), 4, none, true⟩])
  (.seq (.seq (.region [⟨some 52, .move (.tmp 14), 4, none, true⟩, ⟨some 53, .unOp .not 4 (.tmp 52), 4, none, true⟩, ⟨some 54, .move (.tmp 53), 4, none, true⟩, ⟨some 55, .move (.tmp 13), 3, some (some 54), false⟩, ⟨some 56, .binOp .gtr 3 (.tmp 55) (.const (.int .i64 0)) 3, 4, some (some 54), false⟩, ⟨some 57, .pick (.tmp 54) (.const (.bool true)) (.tmp 56), 4, none, true⟩])
  (.cond (.tmp 57) (.seq (.region [⟨some 58, .build 28 #[], 28, none, true⟩, ⟨none, .store 28 (.tmp 2) (.tmp 58), 0, none, true⟩, ⟨some 3, .assign (.const (.slice none 0 0)), 30, none, true⟩, ⟨some 4, .assign (.const (.int .i64 13)), 34, none, true⟩])
  .ret) .skip))
  (.seq (.region [⟨some 59, .load 28 (.tmp 11), 28, none, true⟩, ⟨some 60, .move (.tmp 12), 30, none, true⟩, ⟨none, .store 28 (.tmp 2) (.tmp 59), 0, none, true⟩, ⟨some 3, .assign (.tmp 60), 30, none, true⟩, ⟨some 4, .assign (.const (.int .i64 0)), 34, none, true⟩])
  .ret))))))))
noncomputable def f34 : AFn := ⟨61, [.cell 2 28, .tmp 3, .tmp 4], b34⟩
/-- novation/novationlaw9.alike -/
noncomputable def b35 : AC :=
  .seq (.region [⟨some 4, .assign (.const (.bool false)), 4, none, true⟩])
  (.seq (.region [⟨some 8, .move (.tmp 0), 32, none, true⟩, ⟨some 9, .call (⟨.value (.func 63), #[.tmp 8], #[32]⟩), 32, none, true⟩, ⟨some 5, .assign (.tmp 9), 32, none, true⟩])
  (.seq (.seq (.draw (drawOf T.c35 2) [0, 1, 2, 3, 5, 6, 7, 8, 4, 9, 10] [[], [0], [0, 1], [0, 1, 2], [0, 1, 2, 3], [0, 1, 2], [0, 1, 2, 5], [0, 1, 2, 5, 6], [0, 1, 2, 5, 6, 7], [0, 1, 2, 3, 4, 5, 6, 7, 8], [0, 1, 2, 3, 4, 5, 6, 7, 8, 9]])
  (.cond (.tmp 20) (.seq (.region [⟨some 4, .assign (.const (.bool false)), 4, none, true⟩])
  .ret) .skip))
  (.seq (.region [⟨some 21, .move (.tmp 5), 32, none, true⟩, ⟨some 22, .call (⟨.value (.func 24), #[.tmp 21], #[32]⟩), 0, none, true⟩])
  (.seq (.region [⟨some 24, .move (.tmp 5), 32, none, true⟩, ⟨some 25, .call (⟨.value (.func 16), #[.tmp 24], #[32]⟩), 42, none, true⟩, ⟨some 23, .move (.tmp 25), 42, none, true⟩, ⟨some 26, .extract (.tmp 23) 0, 41, none, true⟩, ⟨some 27, .extract (.tmp 23) 1, 34, none, true⟩, ⟨some 6, .assign (.tmp 26), 41, none, true⟩, ⟨some 7, .assign (.tmp 27), 34, none, true⟩])
  (.seq (.draw (drawOf T.c35 6) [0, 1, 2, 3, 4, 5, 6, 7, 8, 9, 10, 11, 12] [[], [0], [0, 1], [0, 1, 2], [0, 1, 2, 3], [0, 1, 2], [0, 1, 2, 5], [0, 1, 2, 5, 6], [0, 1, 2, 5, 6, 7], [0, 1, 2, 5, 6, 7, 8], [0, 1, 2, 3, 4, 5, 6, 7, 8, 9], [0, 1, 2, 3, 4, 5, 6, 7, 8, 9, 10], [0, 1, 2, 3, 4, 5, 6, 7, 8, 9, 10, 11]])
  .ret)))))
noncomputable def f35 : AFn := ⟨40, [.tmp 4], b35⟩
/-- novation/novationlaw9.do -/
noncomputable def b36 : AC :=
  .seq (.region [⟨some 6, .box 28 (.tmp 2), 0, none, true⟩, ⟨some 7, .box 72 (.tmp 3), 0, none, true⟩, ⟨some 8, .assign (.const (.bool false)), 4, none, true⟩])
  (.seq (.seq (.region [⟨some 16, .fieldAddr 72 (.tmp 7) 0, 0, none, true⟩, ⟨some 17, .load 5 (.tmp 16), 5, none, true⟩, ⟨some 18, .binOp .rem 5 (.tmp 17) (.const (.int .u8 8)) 5, 5, none, true⟩])
  (.block 0 (.seq (.region [⟨some 20, .binOp .eql 5 (.tmp 18) (.const (.int .u8 3)) 5, 4, none, true⟩, ⟨some 19, .assign (.tmp 20), 4, none, true⟩])
  (.cond (.tmp 19) (.seq (.region [⟨some 22, .move (.tmp 0), 32, none, true⟩, ⟨some 23, .call (⟨.value (.func 15), #[.tmp 22], #[32]⟩), 39, none, true⟩, ⟨some 21, .move (.tmp 23), 39, none, true⟩, ⟨some 24, .extract (.tmp 21) 0, 28, none, true⟩, ⟨some 25, .extract (.tmp 21) 1, 30, none, true⟩, ⟨some 26, .extract (.tmp 21) 2, 34, none, true⟩, ⟨some 9, .alloc 28, 0, none, true⟩, ⟨none, .store 28 (.tmp 9) (.tmp 24), 0, none, true⟩, ⟨some 10, .assign (.tmp 25), 30, none, true⟩, ⟨some 11, .assign (.tmp 26), 34, none, true⟩])
  (.seq (.region [⟨some 28, .move (.tmp 1), 57, none, true⟩, ⟨some 29, .call (⟨.value (.func 34), #[.tmp 28], #[57]⟩), 39, none, true⟩, ⟨some 27, .move (.tmp 29), 39, none, true⟩, ⟨some 30, .extract (.tmp 27) 0, 28, none, true⟩, ⟨some 31, .extract (.tmp 27) 1, 30, none, true⟩, ⟨some 32, .extract (.tmp 27) 2, 34, none, true⟩, ⟨some 12, .alloc 28, 0, none, true⟩, ⟨none, .store 28 (.tmp 12) (.tmp 30), 0, none, true⟩, ⟨some 13, .assign (.tmp 31), 30, none, true⟩, ⟨some 14, .assign (.tmp 32), 34, none, true⟩])
  (.seq (.region [⟨some 33, .move (.tmp 11), 34, none, true⟩, ⟨some 34, .move (.tmp 14), 34, none, true⟩, ⟨some 35, .binOp .eql 34 (.tmp 33) (.tmp 34) 34, 4, none, true⟩, ⟨some 36, .move (.tmp 35), 4, none, true⟩, ⟨some 37, .load 28 (.tmp 9), 28, some (some 36), true⟩, ⟨some 38, .load 28 (.tmp 12), 28, some (some 36), true⟩, ⟨some 39, .call (⟨.value (.func 18), #[.tmp 37, .tmp 38], #[28, 28]⟩), 4, some (some 36), true⟩, ⟨some 40, .pick (.tmp 36) (.tmp 39) (.const (.bool false)), 4, none, true⟩, ⟨some 41, .move (.tmp 40), 4, none, true⟩, ⟨some 42, .move (.tmp 10), 30, some (some 41), true⟩, ⟨some 43, .move (.tmp 13), 30, some (some 41), true⟩, ⟨some 44, .call (⟨.value (.func 19), #[.tmp 42, .tmp 43], #[30, 30]⟩), 4, some (some 41), true⟩, ⟨some 45, .pick (.tmp 41) (.tmp 44) (.const (.bool false)), 4, none, true⟩, ⟨some 8, .assign (.tmp 45), 4, none, true⟩])
  .ret))) (.seq (.region [⟨some 47, .binOp .eql 5 (.tmp 18) (.const (.int .u8 4)) 5, 4, none, true⟩, ⟨some 46, .assign (.tmp 47), 4, none, true⟩])
  (.cond (.tmp 46) (.seq (.region [⟨some 48, .move (.tmp 0), 32, none, true⟩, ⟨some 49, .fieldAddr 72 (.tmp 7) 3, 0, none, true⟩, ⟨some 50, .load 3 (.tmp 49), 3, none, true⟩, ⟨some 51, .fieldAddr 72 (.tmp 7) 4, 0, none, true⟩, ⟨some 52, .load 3 (.tmp 51), 3, none, true⟩, ⟨some 53, .call (⟨.value (.func 22), #[.tmp 48, .tmp 50, .tmp 52], #[32, 3, 3]⟩), 0, none, true⟩])
  (.seq (.region [⟨some 54, .move (.tmp 1), 57, none, true⟩, ⟨some 55, .fieldAddr 72 (.tmp 7) 3, 0, none, true⟩, ⟨some 56, .load 3 (.tmp 55), 3, none, true⟩, ⟨some 57, .fieldAddr 72 (.tmp 7) 4, 0, none, true⟩, ⟨some 58, .load 3 (.tmp 57), 3, none, true⟩, ⟨some 59, .call (⟨.value (.func 64), #[.tmp 54, .tmp 56, .tmp 58], #[57, 3, 3]⟩), 0, none, true⟩])
  (.seq (.region [⟨some 8, .assign (.const (.bool true)), 4, none, true⟩])
  .ret))) (.seq (.region [⟨some 61, .binOp .eql 5 (.tmp 18) (.const (.int .u8 5)) 5, 4, none, true⟩, ⟨some 60, .assign (.tmp 61), 4, none, true⟩])
  (.cond (.tmp 60) (.seq (.region [⟨some 62, .move (.tmp 0), 32, none, true⟩, ⟨some 63, .call (⟨.value (.func 24), #[.tmp 62], #[32]⟩), 0, none, true⟩])
  (.seq (.region [⟨some 64, .move (.tmp 1), 57, none, true⟩, ⟨some 65, .call (⟨.value (.func 65), #[.tmp 64], #[57]⟩), 0, none, true⟩])
  (.seq (.region [⟨some 8, .assign (.const (.bool true)), 4, none, true⟩])
  .ret))) (.seq (.region [⟨some 67, .binOp .eql 5 (.tmp 18) (.const (.int .u8 6)) 5, 4, none, true⟩, ⟨some 66, .assign (.tmp 67), 4, none, true⟩])
  (.cond (.tmp 66) (.seq (.draw (drawOf T.c36 15) [0, 1, 2, 4, 5, 6, 3, 7, 8, 9] [[], [], [1], [0, 1, 2], [], [], [5], [0, 1, 2, 3, 4, 5, 6], [0, 1, 2, 3, 4, 5, 6, 7], [0, 1, 2, 3, 4, 5, 6, 7, 8]])
  .ret) (.seq (.region [⟨some 78, .binOp .eql 5 (.tmp 18) (.const (.int .u8 7)) 5, 4, none, true⟩, ⟨some 77, .assign (.tmp 78), 4, none, true⟩])
  (.cond (.tmp 77) (.seq (.draw (drawOf T.c36 17) [0, 1, 3, 4, 2, 5, 6, 7] [[], [], [0, 1], [], [], [0, 1, 2, 3, 4], [0, 1, 2, 3, 4, 5], [0, 1, 2, 3, 4, 5, 6]])
  .ret) .skip))))))))))))
  (.seq (.draw (drawOf T.c36 18) [0, 1, 2, 3, 4, 5, 6, 7, 8, 9, 10, 11, 12, 13, 14, 15, 16, 17, 19, 18, 20, 21, 22] [[], [0], [], [2], [2, 3], [], [5], [5, 6], [], [8], [8, 9], [], [11], [11, 12], [], [14], [14, 15], [0, 1, 2, 3, 4, 5, 6, 7, 8, 9, 10, 11, 12, 13, 14, 15, 16], [0, 1, 2, 3, 4, 5, 6, 7, 8, 9, 10, 11, 12, 13, 14, 15, 16, 17], [], [0, 1, 2, 3, 4, 5, 6, 7, 8, 9, 10, 11, 12, 13, 14, 15, 16, 17, 18, 19], [], [0, 1, 2, 3, 4, 5, 6, 7, 8, 9, 10, 11, 12, 13, 14, 15, 16, 17, 18, 19, 20, 21]])
  (.seq (.seq (.region [⟨some 107, .fieldAddr 72 (.tmp 7) 0, 0, none, true⟩, ⟨some 108, .load 5 (.tmp 107), 5, none, true⟩, ⟨some 109, .binOp .gtr 5 (.tmp 108) (.const (.int .u8 240)) 5, 4, none, true⟩])
  (.cond (.tmp 109) (.region [⟨some 110, .fieldAddr 38 (.tmp 15) 6, 0, none, true⟩, ⟨none, .store 2 (.tmp 110) (.const (.int .i64 (-1))), 0, none, true⟩]) .skip))
  (.seq (.draw (drawOf T.c36 21) [0, 1, 3, 4, 2, 5, 6, 7] [[], [], [0, 1], [], [], [0, 1, 2, 3, 4], [0, 1, 2, 3, 4, 5], [0, 1, 2, 3, 4, 5, 6]])
  .ret))))
noncomputable def f36 : AFn := ⟨118, [.tmp 8], b36⟩
/-- novation/novationlaw9.small -/
noncomputable def b37 : AC :=
  .seq (.region [⟨some 0, .alloc 28, 0, none, true⟩])
  (.seq (.region [⟨some 1, .build 78 #[(1, .const (.int .i64 5))], 78, none, true⟩, ⟨some 2, .buildSlice 26 1 #[(0, .tmp 1)], 26, none, true⟩, ⟨some 3, .build 28 #[(0, .tmp 2), (5, .const (.int .i64 1))], 28, none, true⟩, ⟨none, .store 28 (.tmp 0) (.tmp 3), 0, none, true⟩])
  .ret)
noncomputable def f37 : AFn := ⟨4, [.cell 0 28], b37⟩
/-- (*novation/novationseat.Deck).Some -/
noncomputable def b38 : AC :=
  .seq (.region [⟨some 2, .assign (.const (.int .i64 0)), 2, none, true⟩])
  (.seq (.region [⟨some 4, .move (.tmp 0), 24, none, true⟩, ⟨some 5, .call (⟨.value (.func 52), #[.tmp 4], #[24]⟩), 70, none, true⟩, ⟨some 3, .assign (.tmp 5), 70, none, true⟩])
  (.seq (.seq (.region [⟨some 6, .move (.tmp 3), 70, none, true⟩, ⟨some 7, .binOp .rem 70 (.tmp 6) (.const (.int .u64 8)) 70, 70, none, true⟩])
  (.block 0 (.seq (.region [⟨some 9, .binOp .eql 70 (.tmp 7) (.const (.int .u64 0)) 70, 4, none, true⟩, ⟨some 8, .assign (.tmp 9), 4, none, true⟩])
  (.cond (.tmp 8) (.seq (.region [⟨some 10, .move (.tmp 3), 70, none, true⟩, ⟨some 11, .binOp .shr 70 (.tmp 10) (.const (.int .u64 1)) 100, 70, none, true⟩, ⟨some 12, .convert 70 2 (.tmp 11), 2, none, true⟩, ⟨some 2, .assign (.tmp 12), 2, none, true⟩])
  .ret) (.seq (.region [⟨some 14, .binOp .eql 70 (.tmp 7) (.const (.int .u64 1)) 70, 4, none, true⟩, ⟨some 13, .assign (.tmp 14), 4, none, true⟩])
  (.cond (.tmp 13) (.seq (.region [⟨some 15, .move (.tmp 3), 70, none, true⟩, ⟨some 16, .binOp .shr 70 (.tmp 15) (.const (.int .u64 3)) 100, 70, none, true⟩, ⟨some 17, .binOp .rem 70 (.tmp 16) (.const (.int .u64 1000000000000)) 70, 70, none, true⟩, ⟨some 18, .convert 70 2 (.tmp 17), 2, none, true⟩, ⟨some 2, .assign (.tmp 18), 2, none, true⟩])
  .ret) (.seq (.region [⟨some 20, .binOp .eql 70 (.tmp 7) (.const (.int .u64 2)) 70, 4, none, true⟩, ⟨some 19, .assign (.tmp 20), 4, none, true⟩])
  (.cond (.tmp 19) (.seq (.region [⟨some 21, .move (.tmp 3), 70, none, true⟩, ⟨some 22, .binOp .shr 70 (.tmp 21) (.const (.int .u64 3)) 100, 70, none, true⟩, ⟨some 23, .binOp .rem 70 (.tmp 22) (.const (.int .u64 2)) 70, 70, none, true⟩, ⟨some 24, .convert 70 2 (.tmp 23), 2, none, true⟩, ⟨some 2, .assign (.tmp 24), 2, none, true⟩])
  .ret) .skip))))))))
  (.seq (.region [⟨some 25, .move (.tmp 3), 70, none, true⟩, ⟨some 26, .binOp .shr 70 (.tmp 25) (.const (.int .u64 3)) 100, 70, none, true⟩, ⟨some 27, .binOp .rem 70 (.tmp 26) (.const (.int .u64 5000)) 70, 70, none, true⟩, ⟨some 28, .convert 70 2 (.tmp 27), 2, none, true⟩, ⟨some 2, .assign (.tmp 28), 2, none, true⟩])
  .ret)))
noncomputable def f38 : AFn := ⟨29, [.tmp 2], b38⟩
/-- novation/plan.Put -/
noncomputable def b39 : AC :=
  .seq (.region [⟨some 1, .box 28 (.tmp 0), 0, none, true⟩, ⟨some 2, .assign (.const (.slice none 0 0)), 41, none, true⟩, ⟨some 3, .assign (.const (.int .i64 0)), 34, none, true⟩])
  (.seq (.seq (.region [⟨some 10, .load 28 (.tmp 1), 28, none, true⟩, ⟨some 11, .call (⟨.value (.func 68), #[.tmp 10], #[28]⟩), 4, none, true⟩, ⟨some 12, .unOp .not 4 (.tmp 11), 4, none, true⟩])
  (.cond (.tmp 12) (.seq (.region [⟨some 2, .assign (.const (.slice none 0 0)), 41, none, true⟩, ⟨some 3, .assign (.const (.int .i64 1)), 34, none, true⟩])
  .ret) .skip))
  (.seq (.region [⟨some 13, .fieldAddr 28 (.tmp 1) 0, 0, none, true⟩, ⟨some 14, .load 26 (.tmp 13), 26, none, true⟩, ⟨some 15, .call (⟨.builtin .len, #[.tmp 14], #[26]⟩), 3, none, true⟩, ⟨some 16, .buildSlice 97 1 #[(0, .tmp 15)], 97, none, true⟩, ⟨some 4, .assign (.tmp 16), 97, none, true⟩])
  (.seq (.seq (.region [⟨some 17, .fieldAddr 28 (.tmp 1) 0, 0, none, true⟩, ⟨some 18, .load 26 (.tmp 17), 26, none, true⟩, ⟨some 19, .call (⟨.builtin .len, #[.tmp 18], #[26]⟩), 3, none, true⟩, ⟨some 20, .move (.const (.int .i64 0)), 3, none, true⟩])
  (.block 0 (.loop [false, true, false, false, true, false, false, false, false, false, false, false, false, false, false, false, false, false, true, true, true, false, false, false, false, false, false, false, false, false, false, false, false, false, false, false, false, false, false, false, false, false, false, false, false, false, false, false, false, false, false, false, false, false, false, false, false, false, false, false, false, false] (.seq (.region [⟨some 21, .binOp .lss 3 (.tmp 20) (.tmp 19) 3, 0, none, true⟩])
  (.seq (.cond (.tmp 21) .skip (.exit 0))
  (.seq (.block 1 (.seq (.region [⟨some 22, .indexAddr 26 (.tmp 18) (.tmp 20), 0, none, true⟩, ⟨some 23, .load 78 (.tmp 22), 78, none, true⟩, ⟨some 6, .alloc 78, 0, none, true⟩, ⟨none, .store 78 (.tmp 6) (.tmp 23), 0, none, true⟩])
  (.region [⟨some 24, .move (.tmp 4), 97, none, true⟩, ⟨some 25, .fieldAddr 78 (.tmp 6) 0, 0, none, true⟩, ⟨some 26, .load 3 (.tmp 25), 3, none, true⟩, ⟨some 27, .fieldAddr 78 (.tmp 6) 1, 0, none, true⟩, ⟨some 28, .load 2 (.tmp 27), 2, none, true⟩, ⟨some 29, .fieldAddr 78 (.tmp 6) 2, 0, none, true⟩, ⟨some 30, .load 2 (.tmp 29), 2, none, true⟩, ⟨some 31, .fieldAddr 78 (.tmp 6) 3, 0, none, true⟩, ⟨some 32, .load 2 (.tmp 31), 2, none, true⟩, ⟨some 33, .buildSlice 97 4 #[(0, .tmp 26), (1, .tmp 28), (2, .tmp 30), (3, .tmp 32)], 97, none, true⟩, ⟨some 34, .call (⟨.builtin .append, #[.tmp 24, .tmp 33], #[97, 97]⟩), 97, none, true⟩, ⟨some 4, .assign (.tmp 34), 97, none, true⟩])))
  (.region [⟨some 35, .binOp .add 3 (.tmp 20) (.const (.int .i64 1)) 3, 3, none, true⟩, ⟨some 20, .move (.tmp 35), 3, none, true⟩])))))))
  (.seq (.region [⟨some 36, .move (.tmp 4), 97, none, true⟩, ⟨some 37, .fieldAddr 28 (.tmp 1) 1, 0, none, true⟩, ⟨some 38, .load 2 (.tmp 37), 2, none, true⟩, ⟨some 39, .fieldAddr 28 (.tmp 1) 2, 0, none, true⟩, ⟨some 40, .load 3 (.tmp 39), 3, none, true⟩, ⟨some 41, .fieldAddr 28 (.tmp 1) 3, 0, none, true⟩, ⟨some 42, .load 2 (.tmp 41), 2, none, true⟩, ⟨some 43, .fieldAddr 28 (.tmp 1) 4, 0, none, true⟩, ⟨some 44, .load 2 (.tmp 43), 2, none, true⟩, ⟨some 45, .fieldAddr 28 (.tmp 1) 5, 0, none, true⟩, ⟨some 46, .load 2 (.tmp 45), 2, none, true⟩, ⟨some 47, .fieldAddr 28 (.tmp 1) 6, 0, none, true⟩, ⟨some 48, .load 2 (.tmp 47), 2, none, true⟩, ⟨some 49, .buildSlice 97 6 #[(0, .tmp 38), (1, .tmp 40), (2, .tmp 42), (3, .tmp 44), (4, .tmp 46), (5, .tmp 48)], 97, none, true⟩, ⟨some 50, .call (⟨.builtin .append, #[.tmp 36, .tmp 49], #[97, 97]⟩), 97, none, true⟩, ⟨some 4, .assign (.tmp 50), 97, none, true⟩])
  (.seq (.region [⟨some 7, .assign (.const (.slice none 0 0)), 41, none, true⟩])
  (.seq (.seq (.region [⟨some 51, .move (.tmp 4), 97, none, true⟩, ⟨some 52, .call (⟨.builtin .len, #[.tmp 51], #[97]⟩), 3, none, true⟩, ⟨some 53, .move (.const (.int .i64 0)), 3, none, true⟩])
  (.block 2 (.loop [false, false, false, false, false, false, false, true, false, false, false, false, false, false, false, false, false, false, false, false, false, false, false, false, false, false, false, false, false, false, false, false, false, false, false, false, false, false, false, false, false, false, false, false, false, false, false, false, false, false, false, true, true, true, false, false, false, false, false, false, false, false] (.seq (.region [⟨some 54, .binOp .lss 3 (.tmp 53) (.tmp 52) 3, 0, none, true⟩])
  (.seq (.cond (.tmp 54) .skip (.exit 2))
  (.seq (.block 3 (.seq (.region [⟨some 55, .indexAddr 97 (.tmp 51) (.tmp 53), 0, none, true⟩, ⟨some 56, .load 2 (.tmp 55), 2, none, true⟩, ⟨some 9, .assign (.tmp 56), 2, none, true⟩])
  (.region [⟨some 57, .move (.tmp 7), 41, none, true⟩, ⟨some 58, .move (.tmp 9), 2, none, true⟩, ⟨some 59, .call (⟨.value (.func 69), #[.tmp 57, .tmp 58], #[41, 2]⟩), 41, none, true⟩, ⟨some 7, .assign (.tmp 59), 41, none, true⟩])))
  (.region [⟨some 60, .binOp .add 3 (.tmp 53) (.const (.int .i64 1)) 3, 3, none, true⟩, ⟨some 53, .move (.tmp 60), 3, none, true⟩])))))))
  (.seq (.region [⟨some 61, .move (.tmp 7), 41, none, true⟩, ⟨some 2, .assign (.tmp 61), 41, none, true⟩, ⟨some 3, .assign (.const (.int .i64 0)), 34, none, true⟩])
  .ret)))))))
noncomputable def f39 : AFn := ⟨62, [.tmp 2, .tmp 3], b39⟩
/-- novation/journal.put -/
noncomputable def b40 : AC :=
  .seq (.region [⟨some 4, .assign (.const (.int .i64 0)), 34, none, true⟩])
  (.seq (.region [⟨some 8, .move (.tmp 1), 41, none, true⟩, ⟨some 9, .call (⟨.value (.func 70), #[.tmp 8], #[41]⟩), 42, none, true⟩, ⟨some 7, .move (.tmp 9), 42, none, true⟩, ⟨some 10, .extract (.tmp 7) 0, 41, none, true⟩, ⟨some 11, .extract (.tmp 7) 1, 34, none, true⟩, ⟨some 5, .assign (.tmp 10), 41, none, true⟩, ⟨some 6, .assign (.tmp 11), 34, none, true⟩])
  (.seq (.seq (.region [⟨some 12, .move (.tmp 6), 34, none, true⟩, ⟨some 13, .binOp .neq 34 (.tmp 12) (.const (.int .i64 0)) 34, 4, none, true⟩])
  (.cond (.tmp 13) (.seq (.region [⟨some 14, .move (.tmp 6), 34, none, true⟩, ⟨some 4, .assign (.tmp 14), 34, none, true⟩])
  .ret) .skip))
  (.seq (.region [⟨some 15, .move (.tmp 0), 32, none, true⟩, ⟨some 16, .move (.tmp 5), 41, none, true⟩, ⟨some 17, .call (⟨.value (.func 32), #[.tmp 15, .tmp 16], #[32, 41]⟩), 34, none, true⟩, ⟨some 4, .assign (.tmp 17), 34, none, true⟩])
  .ret)))
noncomputable def f40 : AFn := ⟨18, [.tmp 4], b40⟩
/-- novation/event.Put -/
noncomputable def b41 : AC :=
  .seq (.region [⟨some 1, .box 38 (.tmp 0), 0, none, true⟩, ⟨some 2, .assign (.const (.slice none 0 0)), 41, none, true⟩, ⟨some 3, .assign (.const (.int .i64 0)), 34, none, true⟩])
  (.seq (.seq (.region [⟨some 7, .load 38 (.tmp 1), 38, none, true⟩, ⟨some 8, .call (⟨.value (.func 71), #[.tmp 7], #[38]⟩), 4, none, true⟩, ⟨some 9, .unOp .not 4 (.tmp 8), 4, none, true⟩])
  (.cond (.tmp 9) (.seq (.region [⟨some 2, .assign (.const (.slice none 0 0)), 41, none, true⟩, ⟨some 3, .assign (.const (.int .i64 1)), 34, none, true⟩])
  .ret) .skip))
  (.seq (.region [⟨some 10, .fieldAddr 38 (.tmp 1) 0, 0, none, true⟩, ⟨some 11, .load 3 (.tmp 10), 3, none, true⟩, ⟨some 12, .convert 3 5 (.tmp 11), 5, none, true⟩, ⟨some 13, .buildSlice 41 1 #[(0, .tmp 12)], 41, none, true⟩, ⟨some 4, .assign (.tmp 13), 41, none, true⟩])
  (.seq (.seq (.region [⟨some 14, .fieldAddr 38 (.tmp 1) 0, 0, none, true⟩, ⟨some 15, .load 3 (.tmp 14), 3, none, true⟩, ⟨some 16, .call (⟨.value (.func 72), #[.tmp 15], #[3]⟩), 9, none, true⟩, ⟨some 17, .convert 9 41 (.tmp 16), 41, none, true⟩, ⟨some 18, .call (⟨.builtin .len, #[.tmp 17], #[41]⟩), 3, none, true⟩, ⟨some 19, .move (.const (.int .i64 0)), 3, none, true⟩])
  (.block 0 (.loop [false, true, false, false, true, false, false, false, false, false, false, false, false, false, false, false, false, true, true, true, false, false, false, false, false, false, false, false, false, false, false] (.seq (.region [⟨some 20, .binOp .lss 3 (.tmp 19) (.tmp 18) 3, 0, none, true⟩])
  (.seq (.cond (.tmp 20) .skip (.exit 0))
  (.seq (.block 1 (.seq (.region [⟨some 21, .indexAddr 41 (.tmp 17) (.tmp 19), 0, none, true⟩, ⟨some 22, .load 5 (.tmp 21), 5, none, true⟩, ⟨some 6, .assign (.tmp 22), 5, none, true⟩])
  (.region [⟨some 23, .move (.tmp 4), 41, none, true⟩, ⟨some 24, .load 38 (.tmp 1), 38, none, true⟩, ⟨some 25, .move (.tmp 6), 5, none, true⟩, ⟨some 26, .call (⟨.value (.func 73), #[.tmp 24, .tmp 25], #[38, 5]⟩), 2, none, true⟩, ⟨some 27, .call (⟨.value (.func 69), #[.tmp 23, .tmp 26], #[41, 2]⟩), 41, none, true⟩, ⟨some 4, .assign (.tmp 27), 41, none, true⟩])))
  (.region [⟨some 28, .binOp .add 3 (.tmp 19) (.const (.int .i64 1)) 3, 3, none, true⟩, ⟨some 19, .move (.tmp 28), 3, none, true⟩])))))))
  (.seq (.region [⟨some 29, .move (.tmp 4), 41, none, true⟩, ⟨some 30, .call (⟨.value (.func 74), #[.tmp 29], #[41]⟩), 41, none, true⟩, ⟨some 2, .assign (.tmp 30), 41, none, true⟩, ⟨some 3, .assign (.const (.int .i64 0)), 34, none, true⟩])
  .ret))))
noncomputable def f41 : AFn := ⟨31, [.tmp 2, .tmp 3], b41⟩
noncomputable def as42_0 : AC :=
  .seq (.region [⟨some 4, .assign (.tmp 8), 3, none, true⟩])
  (.region [⟨some 5, .assign (.tmp 9), 41, none, true⟩])
noncomputable def bd42_0 : AC :=
  .block 1 (.region [⟨some 10, .move (.tmp 4), 3, none, true⟩, ⟨some 11, .move (.tmp 5), 41, none, true⟩, ⟨some 12, .call (⟨.builtin .len, #[.tmp 11], #[41]⟩), 3, none, true⟩, ⟨some 13, .binOp .add 3 (.tmp 10) (.tmp 12) 3, 3, none, true⟩, ⟨some 14, .binOp .add 3 (.tmp 13) (.const (.int .i64 6)) 3, 3, none, true⟩, ⟨none, .store 3 (.tmp 3) (.tmp 14), 0, none, true⟩])
/-- novation/frame.Whole -/
noncomputable def b42 : AC :=
  .seq (.region [⟨some 2, .assign (.const (.int .i64 0)), 3, none, true⟩])
  (.seq (.region [⟨some 3, .alloc 3, 0, none, true⟩, ⟨none, .store 3 (.tmp 3) (.const (.int .i64 0)), 0, none, true⟩])
  (.seq (.seq (.region [⟨some 6, .move (.tmp 0), 41, none, true⟩, ⟨some 7, .call (⟨.value (.func 43), #[.tmp 6], #[41]⟩), 85, none, true⟩])
  (.block 0 (.range (.tmp 7) #[8, 9] as42_0 bd42_0)))
  (.seq (.region [⟨some 15, .load 3 (.tmp 3), 3, none, true⟩, ⟨some 2, .assign (.tmp 15), 3, none, true⟩])
  .ret)))
noncomputable def f42 : AFn := ⟨16, [.tmp 2], b42⟩
/-- novation/frame.Walk -/
noncomputable def b43 : AC :=
  .seq (.region [⟨some 2, .assign (.const .nilFunc), 85, none, true⟩])
  (.seq (.region [⟨some 4, .move (.tmp 0), 41, none, true⟩, ⟨some 5, .call (⟨.value (.func 46), #[.tmp 4], #[41]⟩), 41, none, true⟩, ⟨some 3, .alloc 41, 0, none, true⟩, ⟨none, .store 41 (.tmp 3) (.tmp 5), 0, none, true⟩])
  (.seq (.region [⟨some 6, .makeFunc (.func 75) #[] #[.tmp 3], 84, none, true⟩, ⟨some 2, .assign (.tmp 6), 85, none, true⟩])
  .ret))
noncomputable def f43 : AFn := ⟨7, [.tmp 2], b43⟩
noncomputable def as44_0 : AC :=
  .region [⟨some 9, .assign (.tmp 61), 97, none, true⟩]
noncomputable def bd44_0 : AC :=
  .block 3 (.draw (drawOf T.c44 13) [0, 1, 2, 3, 4, 5, 6, 7, 8, 9, 10, 11, 12, 13, 14, 15, 16, 17, 18] [[], [0], [], [2], [2, 3], [], [5], [5, 6], [], [8], [8, 9], [], [11], [11, 12], [2, 3, 4, 5, 6, 7, 8, 9, 10, 11, 12, 13], [2, 3, 4, 5, 6, 7, 8, 9, 10, 11, 12, 13, 14], [0, 1, 2, 3, 4, 5, 6, 7, 8, 9, 10, 11, 12, 13, 14, 15], [0, 1, 2, 3, 4, 5, 6, 7, 8, 9, 10, 11, 12, 13, 14, 15, 16], [0, 1, 2, 3, 4, 5, 6, 7, 8, 9, 10, 11, 12, 13, 14, 15, 16, 17]])
/-- novation/plan.Read -/
noncomputable def b44 : AC :=
  .seq (.region [⟨some 2, .alloc 28, 0, none, true⟩, ⟨some 3, .assign (.const (.int .i64 0)), 34, none, true⟩])
  (.seq (.region [⟨some 4, .assign (.const (.slice none 0 0)), 97, none, true⟩])
  (.seq (.seq (.region [⟨some 5, .assign (.const (.int .i64 0)), 3, none, true⟩])
  (.block 0 (.loop [true, false, true, true, true, true, false, false, false, true, false, false, false, false, false, false, false, false, false, false, false, false, false, false, false, false, false, false, false, false, false, false, false, false, false, false, false, false, false, false, false, false, false, false, false, false, false, false, false, false, false, false, false, false, false, false, false, false, false, false, false, true, false, false, false, false, false, false, false, false, false, false, false, false, false, false, false, false, false, false, false, false, false, false, false, false, false, false, false, false, false, false, false, false, false, false, false, false, false, false, false, false, false, false, false, false, false, false, false, false, false, false, false, false, false, false, false, false, false, false, false, false, false, false] (.seq (.seq (.region [⟨some 13, .move (.tmp 5), 3, none, true⟩, ⟨some 14, .move (.tmp 0), 41, none, true⟩, ⟨some 15, .call (⟨.builtin .len, #[.tmp 14], #[41]⟩), 3, none, true⟩, ⟨some 16, .binOp .lss 3 (.tmp 13) (.tmp 15) 3, 4, none, true⟩])
  (.cond (.tmp 16) .skip (.exit 0)))
  (.block 1 (.seq (.region [⟨some 18, .move (.tmp 0), 41, none, true⟩, ⟨some 19, .move (.tmp 5), 3, none, true⟩, ⟨some 20, .slice 41 (.tmp 18) (some (.tmp 19)) none none, 41, none, true⟩, ⟨some 21, .call (⟨.value (.func 77), #[.tmp 20], #[41]⟩), 117, none, true⟩, ⟨some 17, .move (.tmp 21), 117, none, true⟩, ⟨some 22, .extract (.tmp 17) 0, 2, none, true⟩, ⟨some 23, .extract (.tmp 17) 1, 3, none, true⟩, ⟨some 6, .assign (.tmp 22), 2, none, true⟩, ⟨some 7, .assign (.tmp 23), 3, none, true⟩])
  (.seq (.seq (.region [⟨some 24, .move (.tmp 7), 3, none, true⟩, ⟨some 25, .binOp .eql 3 (.tmp 24) (.const (.int .i64 0)) 3, 4, none, true⟩])
  (.cond (.tmp 25) (.seq (.region [⟨some 26, .build 28 #[], 28, none, true⟩, ⟨none, .store 28 (.tmp 2) (.tmp 26), 0, none, true⟩, ⟨some 3, .assign (.const (.int .i64 13)), 34, none, true⟩])
  .ret) .skip))
  (.region [⟨some 27, .move (.tmp 4), 97, none, true⟩, ⟨some 28, .move (.tmp 6), 2, none, true⟩, ⟨some 29, .buildSlice 97 1 #[(0, .tmp 28)], 97, none, true⟩, ⟨some 30, .call (⟨.builtin .append, #[.tmp 27, .tmp 29], #[97, 97]⟩), 97, none, true⟩, ⟨some 31, .move (.tmp 5), 3, none, true⟩, ⟨some 32, .move (.tmp 7), 3, none, true⟩, ⟨some 33, .binOp .add 3 (.tmp 31) (.tmp 32) 3, 3, none, true⟩, ⟨some 4, .assign (.tmp 30), 97, none, true⟩, ⟨some 5, .assign (.tmp 33), 3, none, true⟩]))))))))
  (.seq (.seq (.region [⟨some 34, .move (.tmp 4), 97, none, true⟩, ⟨some 35, .call (⟨.builtin .len, #[.tmp 34], #[97]⟩), 3, none, true⟩, ⟨some 36, .binOp .eql 3 (.tmp 35) (.const (.int .i64 0)) 3, 4, none, true⟩, ⟨some 37, .move (.tmp 36), 4, none, true⟩, ⟨some 38, .move (.tmp 4), 97, some (some 37), false⟩, ⟨some 39, .indexAddr 97 (.tmp 38) (.const (.int .i64 0)), 0, some (some 37), false⟩, ⟨some 40, .load 2 (.tmp 39), 2, some (some 37), false⟩, ⟨some 41, .call (⟨.value (.func 78), #[.tmp 40, .const (.int .i64 1), .const (.int .i64 6)], #[2, 2, 2]⟩), 4, some (some 37), false⟩, ⟨some 42, .unOp .not 4 (.tmp 41), 4, some (some 37), false⟩, ⟨some 43, .pick (.tmp 37) (.const (.bool true)) (.tmp 42), 4, none, true⟩, ⟨some 44, .move (.tmp 43), 4, none, true⟩, ⟨some 45, .move (.tmp 4), 97, some (some 44), false⟩, ⟨some 46, .call (⟨.builtin .len, #[.tmp 45], #[97]⟩), 3, some (some 44), false⟩, ⟨some 47, .move (.tmp 4), 97, some (some 44), false⟩, ⟨some 48, .indexAddr 97 (.tmp 47) (.const (.int .i64 0)), 0, some (some 44), false⟩, ⟨some 49, .load 2 (.tmp 48), 2, some (some 44), false⟩, ⟨some 50, .binOp .mul 2 (.const (.int .i64 4)) (.tmp 49) 2, 2, some (some 44), false⟩, ⟨some 51, .binOp .add 3 (.tmp 50) (.const (.int .i64 7)) 3, 3, some (some 44), false⟩, ⟨some 52, .binOp .neq 3 (.tmp 46) (.tmp 51) 3, 4, some (some 44), false⟩, ⟨some 53, .pick (.tmp 44) (.const (.bool true)) (.tmp 52), 4, none, true⟩])
  (.cond (.tmp 53) (.seq (.region [⟨some 54, .build 28 #[], 28, none, true⟩, ⟨none, .store 28 (.tmp 2) (.tmp 54), 0, none, true⟩, ⟨some 3, .assign (.const (.int .i64 13)), 34, none, true⟩])
  .ret) .skip))
  (.seq (.region [⟨some 8, .alloc 28, 0, none, true⟩])
  (.seq (.seq (.region [⟨some 55, .move (.tmp 4), 97, none, true⟩, ⟨some 56, .move (.tmp 4), 97, none, true⟩, ⟨some 57, .call (⟨.builtin .len, #[.tmp 56], #[97]⟩), 3, none, true⟩, ⟨some 58, .binOp .sub 3 (.tmp 57) (.const (.int .i64 6)) 3, 3, none, true⟩, ⟨some 59, .slice 97 (.tmp 55) (some (.const (.int .i64 1))) (some (.tmp 58)) none, 97, none, true⟩, ⟨some 60, .call (⟨.value (.func 79), #[.tmp 59, .const (.int .i64 4)], #[97, 3]⟩), 121, none, true⟩])
  (.block 2 (.range (.tmp 60) #[61] as44_0 bd44_0)))
  (.seq (.region [⟨some 80, .move (.tmp 4), 97, none, true⟩, ⟨some 81, .move (.tmp 4), 97, none, true⟩, ⟨some 82, .call (⟨.builtin .len, #[.tmp 81], #[97]⟩), 3, none, true⟩, ⟨some 83, .binOp .sub 3 (.tmp 82) (.const (.int .i64 6)) 3, 3, none, true⟩, ⟨some 84, .slice 97 (.tmp 80) (some (.tmp 83)) none none, 97, none, true⟩, ⟨some 10, .assign (.tmp 84), 97, none, true⟩])
  (.seq (.draw (drawOf T.c44 15) [0, 1, 2, 3, 4, 5, 6, 7, 8, 9, 10, 11, 12, 13, 14, 15, 16, 17, 18, 19, 20, 21, 22, 23, 24, 25, 26, 27, 28, 29] [[], [0], [0, 1], [], [3], [3, 4], [], [6], [6, 7], [], [9], [9, 10], [], [12], [12, 13], [], [15], [15, 16], [0, 1, 2], [0, 1, 2, 18], [0, 1, 2, 3, 4, 5, 18, 19], [0, 1, 2, 3, 4, 5, 18, 19, 20], [0, 1, 2, 3, 4, 5, 6, 7, 8, 18, 19, 20, 21], [0, 1, 2, 3, 4, 5, 6, 7, 8, 18, 19, 20, 21, 22], [0, 1, 2, 3, 4, 5, 6, 7, 8, 9, 10, 11, 18, 19, 20, 21, 22, 23], [0, 1, 2, 3, 4, 5, 6, 7, 8, 9, 10, 11, 18, 19, 20, 21, 22, 23, 24], [0, 1, 2, 3, 4, 5, 6, 7, 8, 9, 10, 11, 12, 13, 14, 18, 19, 20, 21, 22, 23, 24, 25], [0, 1, 2, 3, 4, 5, 6, 7, 8, 9, 10, 11, 12, 13, 14, 18, 19, 20, 21, 22, 23, 24, 25, 26], [0, 1, 2, 3, 4, 5, 6, 7, 8, 9, 10, 11, 12, 13, 14, 15, 16, 17, 18, 19, 20, 21, 22, 23, 24, 25, 26, 27], [0, 1, 2, 3, 4, 5, 6, 7, 8, 9, 10, 11, 12, 13, 14, 15, 16, 17, 18, 19, 20, 21, 22, 23, 24, 25, 26, 27, 28]])
  (.seq (.seq (.region [⟨some 110, .load 28 (.tmp 8), 28, none, true⟩, ⟨some 111, .call (⟨.value (.func 39), #[.tmp 110], #[28]⟩), 42, none, true⟩, ⟨some 109, .move (.tmp 111), 42, none, true⟩, ⟨some 112, .extract (.tmp 109) 0, 41, none, true⟩, ⟨some 113, .extract (.tmp 109) 1, 34, none, true⟩, ⟨some 11, .assign (.tmp 112), 41, none, true⟩, ⟨some 12, .assign (.tmp 113), 34, none, true⟩])
  (.seq (.region [⟨some 114, .move (.tmp 12), 34, none, true⟩, ⟨some 115, .binOp .neq 34 (.tmp 114) (.const (.int .i64 0)) 34, 4, none, true⟩, ⟨some 116, .move (.tmp 115), 4, none, true⟩, ⟨some 117, .move (.tmp 11), 41, some (some 116), false⟩, ⟨some 118, .move (.tmp 0), 41, some (some 116), false⟩, ⟨some 119, .call (⟨.value (.func 80), #[.tmp 117, .tmp 118], #[41, 41]⟩), 4, some (some 116), false⟩, ⟨some 120, .unOp .not 4 (.tmp 119), 4, some (some 116), false⟩, ⟨some 121, .pick (.tmp 116) (.const (.bool true)) (.tmp 120), 4, none, true⟩])
  (.cond (.tmp 121) (.seq (.region [⟨some 122, .build 28 #[], 28, none, true⟩, ⟨none, .store 28 (.tmp 2) (.tmp 122), 0, none, true⟩, ⟨some 3, .assign (.const (.int .i64 13)), 34, none, true⟩])
  .ret) .skip)))
  (.seq (.region [⟨some 123, .load 28 (.tmp 8), 28, none, true⟩, ⟨none, .store 28 (.tmp 2) (.tmp 123), 0, none, true⟩, ⟨some 3, .assign (.const (.int .i64 0)), 34, none, true⟩])
  .ret)))))))))
noncomputable def f44 : AFn := ⟨124, [.cell 2 28, .tmp 3], b44⟩
/-- novation/event.Read -/
noncomputable def b45 : AC :=
  .seq (.region [⟨some 2, .alloc 38, 0, none, true⟩, ⟨some 3, .assign (.const (.int .i64 0)), 34, none, true⟩])
  (.seq (.seq (.region [⟨some 12, .move (.tmp 0), 41, none, true⟩, ⟨some 13, .call (⟨.builtin .len, #[.tmp 12], #[41]⟩), 3, none, true⟩, ⟨some 14, .binOp .eql 3 (.tmp 13) (.const (.int .i64 0)) 3, 4, none, true⟩])
  (.cond (.tmp 14) (.seq (.region [⟨some 15, .build 38 #[], 38, none, true⟩, ⟨none, .store 38 (.tmp 2) (.tmp 15), 0, none, true⟩, ⟨some 3, .assign (.const (.int .i64 13)), 34, none, true⟩])
  .ret) .skip))
  (.seq (.region [⟨some 16, .move (.tmp 0), 41, none, true⟩, ⟨some 17, .indexAddr 41 (.tmp 16) (.const (.int .i64 0)), 0, none, true⟩, ⟨some 18, .load 5 (.tmp 17), 5, none, true⟩, ⟨some 19, .convert 5 3 (.tmp 18), 3, none, true⟩, ⟨some 20, .build 38 #[(0, .tmp 19)], 38, none, true⟩, ⟨some 4, .alloc 38, 0, none, true⟩, ⟨none, .store 38 (.tmp 4) (.tmp 20), 0, none, true⟩, ⟨some 5, .assign (.const (.int .i64 1)), 3, none, true⟩])
  (.seq (.seq (.region [⟨some 21, .fieldAddr 38 (.tmp 4) 0, 0, none, true⟩, ⟨some 22, .load 3 (.tmp 21), 3, none, true⟩, ⟨some 23, .call (⟨.value (.func 72), #[.tmp 22], #[3]⟩), 9, none, true⟩, ⟨some 24, .convert 9 41 (.tmp 23), 41, none, true⟩, ⟨some 25, .call (⟨.builtin .len, #[.tmp 24], #[41]⟩), 3, none, true⟩, ⟨some 26, .move (.const (.int .i64 0)), 3, none, true⟩])
  (.block 0 (.loop [true, false, true, false, true, true, false, false, false, false, false, false, false, false, false, false, false, false, false, false, false, false, false, false, true, true, true, false, false, false, false, false, false, false, false, false, false, false, false, false, false, false, false, false, false, false, false, false, false, false, false, false, false, false, false, false, false, false, false, false, false, false, false] (.seq (.region [⟨some 27, .binOp .lss 3 (.tmp 26) (.tmp 25) 3, 0, none, true⟩])
  (.seq (.cond (.tmp 27) .skip (.exit 0))
  (.seq (.block 1 (.seq (.region [⟨some 28, .indexAddr 41 (.tmp 24) (.tmp 26), 0, none, true⟩, ⟨some 29, .load 5 (.tmp 28), 5, none, true⟩, ⟨some 7, .assign (.tmp 29), 5, none, true⟩])
  (.seq (.region [⟨some 31, .move (.tmp 0), 41, none, true⟩, ⟨some 32, .move (.tmp 5), 3, none, true⟩, ⟨some 33, .slice 41 (.tmp 31) (some (.tmp 32)) none none, 41, none, true⟩, ⟨some 34, .call (⟨.value (.func 77), #[.tmp 33], #[41]⟩), 117, none, true⟩, ⟨some 30, .move (.tmp 34), 117, none, true⟩, ⟨some 35, .extract (.tmp 30) 0, 2, none, true⟩, ⟨some 36, .extract (.tmp 30) 1, 3, none, true⟩, ⟨some 8, .assign (.tmp 35), 2, none, true⟩, ⟨some 9, .assign (.tmp 36), 3, none, true⟩])
  (.seq (.seq (.region [⟨some 37, .move (.tmp 9), 3, none, true⟩, ⟨some 38, .binOp .eql 3 (.tmp 37) (.const (.int .i64 0)) 3, 4, none, true⟩])
  (.cond (.tmp 38) (.seq (.region [⟨some 39, .build 38 #[], 38, none, true⟩, ⟨none, .store 38 (.tmp 2) (.tmp 39), 0, none, true⟩, ⟨some 3, .assign (.const (.int .i64 13)), 34, none, true⟩])
  .ret) .skip))
  (.region [⟨some 40, .load 38 (.tmp 4), 38, none, true⟩, ⟨some 41, .move (.tmp 7), 5, none, true⟩, ⟨some 42, .move (.tmp 8), 2, none, true⟩, ⟨some 43, .call (⟨.value (.func 81), #[.tmp 40, .tmp 41, .tmp 42], #[38, 5, 2]⟩), 38, none, true⟩, ⟨some 44, .move (.tmp 5), 3, none, true⟩, ⟨some 45, .move (.tmp 9), 3, none, true⟩, ⟨some 46, .binOp .add 3 (.tmp 44) (.tmp 45) 3, 3, none, true⟩, ⟨none, .store 38 (.tmp 4) (.tmp 43), 0, none, true⟩, ⟨some 5, .assign (.tmp 46), 3, none, true⟩])))))
  (.region [⟨some 47, .binOp .add 3 (.tmp 26) (.const (.int .i64 1)) 3, 3, none, true⟩, ⟨some 26, .move (.tmp 47), 3, none, true⟩])))))))
  (.seq (.seq (.region [⟨some 49, .load 38 (.tmp 4), 38, none, true⟩, ⟨some 50, .call (⟨.value (.func 41), #[.tmp 49], #[38]⟩), 42, none, true⟩, ⟨some 48, .move (.tmp 50), 42, none, true⟩, ⟨some 51, .extract (.tmp 48) 0, 41, none, true⟩, ⟨some 52, .extract (.tmp 48) 1, 34, none, true⟩, ⟨some 10, .assign (.tmp 51), 41, none, true⟩, ⟨some 11, .assign (.tmp 52), 34, none, true⟩])
  (.seq (.region [⟨some 53, .move (.tmp 11), 34, none, true⟩, ⟨some 54, .binOp .neq 34 (.tmp 53) (.const (.int .i64 0)) 34, 4, none, true⟩, ⟨some 55, .move (.tmp 54), 4, none, true⟩, ⟨some 56, .move (.tmp 10), 41, some (some 55), false⟩, ⟨some 57, .move (.tmp 0), 41, some (some 55), false⟩, ⟨some 58, .call (⟨.value (.func 80), #[.tmp 56, .tmp 57], #[41, 41]⟩), 4, some (some 55), false⟩, ⟨some 59, .unOp .not 4 (.tmp 58), 4, some (some 55), false⟩, ⟨some 60, .pick (.tmp 55) (.const (.bool true)) (.tmp 59), 4, none, true⟩])
  (.cond (.tmp 60) (.seq (.region [⟨some 61, .build 38 #[], 38, none, true⟩, ⟨none, .store 38 (.tmp 2) (.tmp 61), 0, none, true⟩, ⟨some 3, .assign (.const (.int .i64 13)), 34, none, true⟩])
  .ret) .skip)))
  (.seq (.region [⟨some 62, .load 38 (.tmp 4), 38, none, true⟩, ⟨none, .store 38 (.tmp 2) (.tmp 62), 0, none, true⟩, ⟨some 3, .assign (.const (.int .i64 0)), 34, none, true⟩])
  .ret)))))
noncomputable def f45 : AFn := ⟨63, [.cell 2 38, .tmp 3], b45⟩
/-- slices.Clone[[]byte,byte] -/
noncomputable def b46 : AC :=
  .seq (.region [⟨some 2, .assign (.const (.slice none 0 0)), 41, none, true⟩])
  (.seq (.seq (.region [⟨some 3, .move (.tmp 0), 41, none, true⟩, ⟨some 4, .binOp .eql 41 (.tmp 3) (.const (.slice none 0 0)) 41, 4, none, true⟩])
  (.cond (.tmp 4) (.seq (.region [⟨some 2, .assign (.const (.slice none 0 0)), 41, none, true⟩])
  .ret) .skip))
  (.seq (.region [⟨some 5, .buildSlice 41 0 #[], 41, none, true⟩, ⟨some 6, .move (.tmp 0), 41, none, true⟩, ⟨some 7, .call (⟨.builtin .append, #[.tmp 5, .tmp 6], #[41, 41]⟩), 41, none, true⟩, ⟨some 2, .assign (.tmp 7), 41, none, true⟩])
  .ret))
noncomputable def f46 : AFn := ⟨8, [.tmp 2], b46⟩
noncomputable def as47_0 : AC :=
  .region [⟨some 5, .assign (.tmp 13), 41, none, true⟩]
noncomputable def bd47_0 : AC :=
  .block 1 (.seq (.seq (.region [⟨some 14, .load 3 (.tmp 3), 3, none, true⟩, ⟨some 15, .binOp .lss 3 (.tmp 14) (.const (.int .i64 0)) 3, 4, none, true⟩])
  (.cond (.tmp 15) (.seq (.seq (.region [⟨some 17, .move (.tmp 5), 41, none, true⟩, ⟨some 18, .call (⟨.value (.func 44), #[.tmp 17], #[41]⟩), 87, none, true⟩, ⟨some 16, .move (.tmp 18), 87, none, true⟩, ⟨some 19, .extract (.tmp 16) 0, 28, none, true⟩, ⟨some 20, .extract (.tmp 16) 1, 34, none, true⟩, ⟨some 6, .alloc 28, 0, none, true⟩, ⟨none, .store 28 (.tmp 6) (.tmp 19), 0, none, true⟩, ⟨some 7, .assign (.tmp 20), 34, none, true⟩])
  (.seq (.region [⟨some 21, .move (.tmp 7), 34, none, true⟩, ⟨some 22, .binOp .neq 34 (.tmp 21) (.const (.int .i64 0)) 34, 4, none, true⟩])
  (.cond (.tmp 22) .ret .skip)))
  (.seq (.region [⟨none, .store 3 (.tmp 3) (.const (.int .i64 0)), 0, none, true⟩])
  (.exit 1))) .skip))
  (.seq (.region [⟨some 24, .move (.tmp 5), 41, none, true⟩, ⟨some 25, .call (⟨.value (.func 45), #[.tmp 24], #[41]⟩), 89, none, true⟩, ⟨some 23, .move (.tmp 25), 89, none, true⟩, ⟨some 26, .extract (.tmp 23) 0, 38, none, true⟩, ⟨some 27, .extract (.tmp 23) 1, 34, none, true⟩, ⟨some 8, .alloc 38, 0, none, true⟩, ⟨none, .store 38 (.tmp 8) (.tmp 26), 0, none, true⟩, ⟨some 9, .assign (.tmp 27), 34, none, true⟩])
  (.seq (.seq (.region [⟨some 28, .move (.tmp 9), 34, none, true⟩, ⟨some 29, .binOp .neq 34 (.tmp 28) (.const (.int .i64 0)) 34, 4, none, true⟩, ⟨some 30, .move (.tmp 29), 4, none, true⟩, ⟨some 31, .load 92 (.tmp 2), 92, some (some 30), false⟩, ⟨some 32, .load 3 (.tmp 3), 3, some (some 30), false⟩, ⟨some 33, .load 38 (.tmp 8), 38, some (some 30), false⟩, ⟨some 34, .call (⟨.value (.tmp 31), #[.tmp 32, .tmp 33], #[3, 38]⟩), 4, some (some 30), false⟩, ⟨some 35, .unOp .not 4 (.tmp 34), 4, some (some 30), false⟩, ⟨some 36, .pick (.tmp 30) (.const (.bool true)) (.tmp 35), 4, none, true⟩])
  (.cond (.tmp 36) .ret .skip))
  (.region [⟨some 37, .load 3 (.tmp 3), 3, none, true⟩, ⟨some 38, .binOp .add 3 (.tmp 37) (.const (.int .i64 1)) 3, 3, none, true⟩, ⟨none, .store 3 (.tmp 3) (.tmp 38), 0, none, true⟩]))))
/-- novation/journal.All$1 -/
noncomputable def b47 : AC :=
  .seq (.region [⟨some 2, .box 92 (.tmp 0), 0, none, true⟩])
  (.seq (.region [⟨some 3, .alloc 3, 0, none, true⟩, ⟨none, .store 3 (.tmp 3) (.const (.int .i64 (-1))), 0, none, true⟩])
  (.seq (.region [⟨some 10, .load 41 (.tmp 1), 41, none, true⟩, ⟨some 11, .call (⟨.value (.func 43), #[.tmp 10], #[41]⟩), 85, none, true⟩])
  (.block 0 (.range (.tmp 11) #[12, 13] as47_0 bd47_0))))
noncomputable def f47 : AFn := ⟨39, [], b47⟩
/-- (*novation/tape.Tape).last -/
noncomputable def b48 : AC :=
  .seq (.region [⟨some 2, .assign (.const (.bool false)), 4, none, true⟩])
  (.seq (.seq (.region [⟨some 3, .move (.tmp 0), 32, none, true⟩, ⟨some 4, .nilCheck (.tmp 3), 0, none, true⟩, ⟨some 5, .fieldAddr 81 (.tmp 4) 2, 0, none, true⟩, ⟨some 6, .load 4 (.tmp 5), 4, none, true⟩, ⟨some 7, .unOp .not 4 (.tmp 6), 4, none, true⟩])
  (.cond (.tmp 7) (.seq (.region [⟨some 2, .assign (.const (.bool false)), 4, none, true⟩])
  .ret) .skip))
  (.seq (.seq (.region [⟨some 8, .move (.tmp 0), 32, none, true⟩, ⟨some 9, .nilCheck (.tmp 8), 0, none, true⟩, ⟨some 10, .fieldAddr 81 (.tmp 9) 4, 0, none, true⟩, ⟨some 11, .load 3 (.tmp 10), 3, none, true⟩, ⟨some 12, .binOp .gtr 3 (.tmp 11) (.const (.int .i64 0)) 3, 4, none, true⟩])
  (.cond (.tmp 12) (.seq (.region [⟨some 13, .move (.tmp 0), 32, none, true⟩, ⟨some 14, .nilCheck (.tmp 13), 0, none, true⟩, ⟨some 15, .fieldAddr 81 (.tmp 14) 4, 0, none, true⟩, ⟨some 16, .load 3 (.tmp 15), 3, none, true⟩, ⟨some 17, .binOp .sub 3 (.tmp 16) (.const (.int .i64 1)) 3, 3, none, true⟩, ⟨some 18, .nilCheck (.tmp 13), 0, none, true⟩, ⟨some 19, .fieldAddr 81 (.tmp 18) 4, 0, none, true⟩, ⟨none, .store 3 (.tmp 19) (.tmp 17), 0, none, true⟩])
  (.seq (.region [⟨some 2, .assign (.const (.bool false)), 4, none, true⟩])
  .ret)) .skip))
  (.seq (.region [⟨some 20, .move (.tmp 0), 32, none, true⟩, ⟨some 21, .move (.tmp 0), 32, none, true⟩, ⟨some 22, .nilCheck (.tmp 20), 0, none, true⟩, ⟨some 23, .fieldAddr 81 (.tmp 22) 2, 0, none, true⟩, ⟨none, .store 4 (.tmp 23) (.const (.bool false)), 0, none, true⟩, ⟨some 24, .nilCheck (.tmp 21), 0, none, true⟩, ⟨some 25, .fieldAddr 81 (.tmp 24) 3, 0, none, true⟩, ⟨none, .store 4 (.tmp 25) (.const (.bool true)), 0, none, true⟩])
  (.seq (.region [⟨some 2, .assign (.const (.bool true)), 4, none, true⟩])
  .ret))))
noncomputable def f48 : AFn := ⟨26, [.tmp 2], b48⟩
/-- novation/novationref4.RightPlan -/
noncomputable def b49 : AC :=
  .seq (.region [⟨some 1, .box 28 (.tmp 0), 0, none, true⟩, ⟨some 2, .assign (.const (.bool false)), 4, none, true⟩])
  (.seq (.seq (.region [⟨some 5, .fieldAddr 28 (.tmp 1) 0, 0, none, true⟩, ⟨some 6, .load 26 (.tmp 5), 26, none, true⟩, ⟨some 7, .call (⟨.builtin .len, #[.tmp 6], #[26]⟩), 3, none, true⟩, ⟨some 8, .binOp .lss 3 (.tmp 7) (.const (.int .i64 1)) 3, 4, none, true⟩, ⟨some 9, .move (.tmp 8), 4, none, true⟩, ⟨some 10, .fieldAddr 28 (.tmp 1) 0, 0, some (some 9), false⟩, ⟨some 11, .load 26 (.tmp 10), 26, some (some 9), false⟩, ⟨some 12, .call (⟨.builtin .len, #[.tmp 11], #[26]⟩), 3, some (some 9), false⟩, ⟨some 13, .binOp .gtr 3 (.tmp 12) (.const (.int .i64 6)) 3, 4, some (some 9), false⟩, ⟨some 14, .pick (.tmp 9) (.const (.bool true)) (.tmp 13), 4, none, true⟩])
  (.cond (.tmp 14) (.seq (.region [⟨some 2, .assign (.const (.bool false)), 4, none, true⟩])
  .ret) .skip))
  (.seq (.seq (.region [⟨some 3, .assign (.const (.int .i64 0)), 3, none, true⟩])
  (.block 0 (.loop [false, true, false, true, false, false, false, false, false, false, false, false, false, false, false, false, false, false, false, false, false, false, false, false, false, false, false, false, false, false, false, false, false, false, false, false, false, false, false, false, false, false, false, false, false, false, false, false, false, false, false, false, false, false, false, false, false, false, false, false, false, false, false, false, false, false, false, false, false, false, false, false, false, false, false, false, false] (.seq (.seq (.region [⟨some 15, .move (.tmp 3), 3, none, true⟩, ⟨some 16, .fieldAddr 28 (.tmp 1) 0, 0, none, true⟩, ⟨some 17, .load 26 (.tmp 16), 26, none, true⟩, ⟨some 18, .call (⟨.builtin .len, #[.tmp 17], #[26]⟩), 3, none, true⟩, ⟨some 19, .binOp .lss 3 (.tmp 15) (.tmp 18) 3, 4, none, true⟩])
  (.cond (.tmp 19) .skip (.exit 0)))
  (.seq (.block 1 (.seq (.region [⟨some 22, .fieldAddr 28 (.tmp 1) 0, 0, none, true⟩, ⟨some 23, .load 26 (.tmp 22), 26, none, true⟩, ⟨some 24, .move (.tmp 3), 3, none, true⟩, ⟨some 25, .indexAddr 26 (.tmp 23) (.tmp 24), 0, none, true⟩, ⟨some 26, .load 78 (.tmp 25), 78, none, true⟩, ⟨some 4, .alloc 78, 0, none, true⟩, ⟨none, .store 78 (.tmp 4) (.tmp 26), 0, none, true⟩])
  (.seq (.region [⟨some 27, .fieldAddr 78 (.tmp 4) 0, 0, none, true⟩, ⟨some 28, .load 3 (.tmp 27), 3, none, true⟩, ⟨some 29, .call (⟨.value (.func 82), #[.tmp 28, .const (.int .i64 0), .const (.int .i64 3)], #[2, 2, 2]⟩), 4, none, true⟩, ⟨some 30, .unOp .not 4 (.tmp 29), 4, none, true⟩, ⟨some 31, .move (.tmp 30), 4, none, true⟩, ⟨some 32, .fieldAddr 78 (.tmp 4) 1, 0, some (some 31), false⟩, ⟨some 33, .load 2 (.tmp 32), 2, some (some 31), false⟩, ⟨some 34, .call (⟨.value (.func 82), #[.tmp 33, .const (.int .i64 1), .const (.int .i64 1000000000000)], #[2, 2, 2]⟩), 4, some (some 31), false⟩, ⟨some 35, .unOp .not 4 (.tmp 34), 4, some (some 31), false⟩, ⟨some 36, .pick (.tmp 31) (.const (.bool true)) (.tmp 35), 4, none, true⟩, ⟨some 37, .move (.tmp 36), 4, none, true⟩, ⟨some 38, .fieldAddr 78 (.tmp 4) 2, 0, some (some 37), false⟩, ⟨some 39, .load 2 (.tmp 38), 2, some (some 37), false⟩, ⟨some 40, .call (⟨.value (.func 82), #[.tmp 39, .const (.int .i64 0), .const (.int .i64 1000000000)], #[2, 2, 2]⟩), 4, some (some 37), false⟩, ⟨some 41, .unOp .not 4 (.tmp 40), 4, some (some 37), false⟩, ⟨some 42, .pick (.tmp 37) (.const (.bool true)) (.tmp 41), 4, none, true⟩, ⟨some 43, .move (.tmp 42), 4, none, true⟩, ⟨some 44, .fieldAddr 78 (.tmp 4) 3, 0, some (some 43), false⟩, ⟨some 45, .load 2 (.tmp 44), 2, some (some 43), false⟩, ⟨some 46, .call (⟨.value (.func 82), #[.tmp 45, .const (.int .i64 0), .const (.int .i64 1000000000)], #[2, 2, 2]⟩), 4, some (some 43), false⟩, ⟨some 47, .unOp .not 4 (.tmp 46), 4, some (some 43), false⟩, ⟨some 48, .pick (.tmp 43) (.const (.bool true)) (.tmp 47), 4, none, true⟩])
  (.cond (.tmp 48) (.seq (.region [⟨some 2, .assign (.const (.bool false)), 4, none, true⟩])
  .ret) .skip))))
  (.region [⟨some 20, .move (.tmp 3), 3, none, true⟩, ⟨some 21, .binOp .add 3 (.tmp 20) (.const (.int .i64 1)) 3, 3, none, true⟩, ⟨some 3, .assign (.tmp 21), 3, none, true⟩]))))))
  (.seq (.region [⟨some 49, .fieldAddr 28 (.tmp 1) 1, 0, none, true⟩, ⟨some 50, .load 2 (.tmp 49), 2, none, true⟩, ⟨some 51, .binOp .geq 2 (.tmp 50) (.const (.int .i64 0)) 2, 4, none, true⟩, ⟨some 52, .move (.tmp 51), 4, none, true⟩, ⟨some 53, .fieldAddr 28 (.tmp 1) 2, 0, some (some 52), true⟩, ⟨some 54, .load 3 (.tmp 53), 3, some (some 52), true⟩, ⟨some 55, .call (⟨.value (.func 82), #[.tmp 54, .const (.int .i64 0), .const (.int .i64 4)], #[2, 2, 2]⟩), 4, some (some 52), true⟩, ⟨some 56, .pick (.tmp 52) (.tmp 55) (.const (.bool false)), 4, none, true⟩, ⟨some 57, .move (.tmp 56), 4, none, true⟩, ⟨some 58, .fieldAddr 28 (.tmp 1) 3, 0, some (some 57), true⟩, ⟨some 59, .load 2 (.tmp 58), 2, some (some 57), true⟩, ⟨some 60, .call (⟨.value (.func 82), #[.tmp 59, .const (.int .i64 0), .const (.int .i64 1000000)], #[2, 2, 2]⟩), 4, some (some 57), true⟩, ⟨some 61, .pick (.tmp 57) (.tmp 60) (.const (.bool false)), 4, none, true⟩, ⟨some 62, .move (.tmp 61), 4, none, true⟩, ⟨some 63, .fieldAddr 28 (.tmp 1) 4, 0, some (some 62), true⟩, ⟨some 64, .load 2 (.tmp 63), 2, some (some 62), true⟩, ⟨some 65, .call (⟨.value (.func 82), #[.tmp 64, .const (.int .i64 0), .const (.int .i64 1000000)], #[2, 2, 2]⟩), 4, some (some 62), true⟩, ⟨some 66, .pick (.tmp 62) (.tmp 65) (.const (.bool false)), 4, none, true⟩, ⟨some 67, .move (.tmp 66), 4, none, true⟩, ⟨some 68, .fieldAddr 28 (.tmp 1) 5, 0, some (some 67), true⟩, ⟨some 69, .load 2 (.tmp 68), 2, some (some 67), true⟩, ⟨some 70, .call (⟨.value (.func 82), #[.tmp 69, .const (.int .i64 1), .const (.int .i64 4611686018427387904)], #[2, 2, 2]⟩), 4, some (some 67), true⟩, ⟨some 71, .pick (.tmp 67) (.tmp 70) (.const (.bool false)), 4, none, true⟩, ⟨some 72, .move (.tmp 71), 4, none, true⟩, ⟨some 73, .fieldAddr 28 (.tmp 1) 6, 0, some (some 72), true⟩, ⟨some 74, .load 2 (.tmp 73), 2, some (some 72), true⟩, ⟨some 75, .binOp .geq 2 (.tmp 74) (.const (.int .i64 0)) 2, 4, some (some 72), true⟩, ⟨some 76, .pick (.tmp 72) (.tmp 75) (.const (.bool false)), 4, none, true⟩, ⟨some 2, .assign (.tmp 76), 4, none, true⟩])
  .ret)))
noncomputable def f49 : AFn := ⟨77, [.tmp 2], b49⟩
/-- novation/novationref4.Number -/
noncomputable def b50 : AC :=
  .seq (.region [⟨some 4, .assign (.const (.slice none 0 0)), 41, none, true⟩])
  (.seq (.region [⟨some 7, .buildSlice 41 0 #[], 41, none, true⟩, ⟨some 8, .move (.tmp 0), 41, none, true⟩, ⟨some 9, .call (⟨.builtin .append, #[.tmp 7, .tmp 8], #[41, 41]⟩), 41, none, true⟩, ⟨some 5, .assign (.tmp 9), 41, none, true⟩])
  (.seq (.region [⟨some 10, .move (.tmp 1), 2, none, true⟩, ⟨some 11, .convert 2 70 (.tmp 10), 70, none, true⟩, ⟨some 12, .binOp .shl 70 (.tmp 11) (.const (.int .u64 1)) 100, 70, none, true⟩, ⟨some 6, .assign (.tmp 12), 70, none, true⟩])
  (.seq (.seq (.region [⟨some 13, .move (.tmp 1), 2, none, true⟩, ⟨some 14, .binOp .lss 2 (.tmp 13) (.const (.int .i64 0)) 2, 4, none, true⟩])
  (.cond (.tmp 14) (.region [⟨some 15, .move (.tmp 1), 2, none, true⟩, ⟨some 16, .binOp .add 2 (.tmp 15) (.const (.int .i64 1)) 2, 2, none, true⟩, ⟨some 17, .unOp .neg 2 (.tmp 16), 2, none, true⟩, ⟨some 18, .convert 2 70 (.tmp 17), 70, none, true⟩, ⟨some 19, .binOp .shl 70 (.tmp 18) (.const (.int .u64 1)) 100, 70, none, true⟩, ⟨some 20, .binOp .or 70 (.tmp 19) (.const (.int .u64 1)) 70, 70, none, true⟩, ⟨some 6, .assign (.tmp 20), 70, none, true⟩]) .skip))
  (.seq (.block 0 (.loop [false, false, false, false, false, true, true, false, false, false, false, false, false, false, false, false, false, false, false, false, false, false, false, false, false, false, false, false, false, false, false, false, false, false, false, false, false] (.seq (.seq (.region [⟨some 21, .move (.tmp 6), 70, none, true⟩, ⟨some 22, .binOp .gtr 70 (.tmp 21) (.const (.int .u64 127)) 70, 4, none, true⟩])
  (.cond (.tmp 22) .skip (.exit 0)))
  (.block 1 (.seq (.region [⟨some 23, .move (.tmp 5), 41, none, true⟩, ⟨some 24, .move (.tmp 6), 70, none, true⟩, ⟨some 25, .binOp .and 70 (.tmp 24) (.const (.int .u64 127)) 70, 70, none, true⟩, ⟨some 26, .convert 70 5 (.tmp 25), 5, none, true⟩, ⟨some 27, .binOp .or 5 (.tmp 26) (.const (.int .u8 128)) 5, 5, none, true⟩, ⟨some 28, .buildSlice 41 1 #[(0, .tmp 27)], 41, none, true⟩, ⟨some 29, .call (⟨.builtin .append, #[.tmp 23, .tmp 28], #[41, 41]⟩), 41, none, true⟩, ⟨some 5, .assign (.tmp 29), 41, none, true⟩])
  (.region [⟨some 30, .move (.tmp 6), 70, none, true⟩, ⟨some 31, .binOp .shr 70 (.tmp 30) (.const (.int .u64 7)) 100, 70, none, true⟩, ⟨some 6, .assign (.tmp 31), 70, none, true⟩]))))))
  (.seq (.region [⟨some 32, .move (.tmp 5), 41, none, true⟩, ⟨some 33, .move (.tmp 6), 70, none, true⟩, ⟨some 34, .convert 70 5 (.tmp 33), 5, none, true⟩, ⟨some 35, .buildSlice 41 1 #[(0, .tmp 34)], 41, none, true⟩, ⟨some 36, .call (⟨.builtin .append, #[.tmp 32, .tmp 35], #[41, 41]⟩), 41, none, true⟩, ⟨some 4, .assign (.tmp 36), 41, none, true⟩])
  .ret)))))
noncomputable def f50 : AFn := ⟨37, [.tmp 4], b50⟩
/-- novation/novationref4.Crc -/
noncomputable def b51 : AC :=
  .seq (.region [⟨some 2, .assign (.const (.int .u32 0)), 98, none, true⟩])
  (.seq (.region [⟨some 3, .assign (.const (.int .u32 4294967295)), 98, none, true⟩])
  (.seq (.seq (.region [⟨some 4, .assign (.const (.int .i64 0)), 3, none, true⟩])
  (.block 0 (.loop [true, false, false, true, true, false, false, false, false, false, false, false, false, false, false, false, false, false, false, false, false, false, false, false, false, false, false, false, false, false, false, false, false, false] (.seq (.seq (.region [⟨some 7, .move (.tmp 4), 3, none, true⟩, ⟨some 8, .move (.tmp 0), 41, none, true⟩, ⟨some 9, .call (⟨.builtin .len, #[.tmp 8], #[41]⟩), 3, none, true⟩, ⟨some 10, .binOp .lss 3 (.tmp 7) (.tmp 9) 3, 4, none, true⟩])
  (.cond (.tmp 10) .skip (.exit 0)))
  (.seq (.block 1 (.seq (.region [⟨some 13, .move (.tmp 3), 98, none, true⟩, ⟨some 14, .move (.tmp 0), 41, none, true⟩, ⟨some 15, .move (.tmp 4), 3, none, true⟩, ⟨some 16, .indexAddr 41 (.tmp 14) (.tmp 15), 0, none, true⟩, ⟨some 17, .load 5 (.tmp 16), 5, none, true⟩, ⟨some 18, .convert 5 98 (.tmp 17), 98, none, true⟩, ⟨some 19, .binOp .xor 98 (.tmp 13) (.tmp 18) 98, 98, none, true⟩, ⟨some 3, .assign (.tmp 19), 98, none, true⟩])
  (.seq (.region [⟨some 5, .assign (.const (.int .i64 0)), 3, none, true⟩])
  (.block 2 (.loop [true, false, false, true, true, true, false, false, false, false, false, false, false, false, false, false, false, false, false, false, false, false, false, false, false, false, false, false, false, false, false, false, false, false] (.seq (.seq (.region [⟨some 20, .move (.tmp 5), 3, none, true⟩, ⟨some 21, .binOp .lss 3 (.tmp 20) (.const (.int .i64 8)) 3, 4, none, true⟩])
  (.cond (.tmp 21) .skip (.exit 2)))
  (.seq (.block 3 (.seq (.region [⟨some 24, .move (.tmp 3), 98, none, true⟩, ⟨some 25, .binOp .and 98 (.tmp 24) (.const (.int .u32 1)) 98, 98, none, true⟩, ⟨some 6, .assign (.tmp 25), 98, none, true⟩])
  (.seq (.region [⟨some 26, .move (.tmp 3), 98, none, true⟩, ⟨some 27, .binOp .shr 98 (.tmp 26) (.const (.int .u64 1)) 100, 98, none, true⟩, ⟨some 3, .assign (.tmp 27), 98, none, true⟩])
  (.seq (.region [⟨some 28, .move (.tmp 6), 98, none, true⟩, ⟨some 29, .binOp .eql 98 (.tmp 28) (.const (.int .u32 1)) 98, 4, none, true⟩])
  (.cond (.tmp 29) (.region [⟨some 30, .move (.tmp 3), 98, none, true⟩, ⟨some 31, .binOp .xor 98 (.tmp 30) (.const (.int .u32 3988292384)) 98, 98, none, true⟩, ⟨some 3, .assign (.tmp 31), 98, none, true⟩]) .skip)))))
  (.region [⟨some 22, .move (.tmp 5), 3, none, true⟩, ⟨some 23, .binOp .add 3 (.tmp 22) (.const (.int .i64 1)) 3, 3, none, true⟩, ⟨some 5, .assign (.tmp 23), 3, none, true⟩]))))))))
  (.region [⟨some 11, .move (.tmp 4), 3, none, true⟩, ⟨some 12, .binOp .add 3 (.tmp 11) (.const (.int .i64 1)) 3, 3, none, true⟩, ⟨some 4, .assign (.tmp 12), 3, none, true⟩]))))))
  (.seq (.region [⟨some 32, .move (.tmp 3), 98, none, true⟩, ⟨some 33, .unOp .xor 98 (.tmp 32), 98, none, true⟩, ⟨some 2, .assign (.tmp 33), 98, none, true⟩])
  .ret)))
noncomputable def f51 : AFn := ⟨34, [.tmp 2], b51⟩
/-- (*novation/novationseat.Deck).Next -/
noncomputable def b52 : AC :=
  .seq (.region [⟨some 2, .assign (.const (.int .u64 0)), 70, none, true⟩])
  (.seq (.region [⟨some 3, .assign (.const (.int .u64 0)), 70, none, true⟩])
  (.seq (.seq (.draw (drawOf T.c52 2) [0, 1, 2, 3, 4, 5, 6, 7, 8, 9] [[], [0], [0, 1], [0, 1, 2], [], [4], [4, 5], [4, 5, 6], [4, 5, 6, 7], [0, 1, 2, 3, 4, 5, 6, 7, 8]])
  (.cond (.tmp 13) (.draw (drawOf T.c52 3) [0, 1, 2, 3, 4, 5, 6, 7, 8, 9, 10] [[], [0], [0, 1], [0, 1, 2], [], [4], [4, 5], [4, 5, 6], [0, 1, 2, 3, 4, 5, 6, 7], [0, 1, 2, 3, 4, 5, 6, 7, 8], [0, 1, 2, 3, 4, 5, 6, 7, 8, 9]]) .skip))
  (.seq (.region [⟨some 24, .move (.tmp 0), 24, none, true⟩, ⟨some 25, .nilCheck (.tmp 24), 0, none, true⟩, ⟨some 26, .fieldAddr 76 (.tmp 25) 1, 0, none, true⟩, ⟨some 27, .load 3 (.tmp 26), 3, none, true⟩, ⟨some 28, .binOp .add 3 (.tmp 27) (.const (.int .i64 1)) 3, 3, none, true⟩, ⟨some 29, .nilCheck (.tmp 24), 0, none, true⟩, ⟨some 30, .fieldAddr 76 (.tmp 29) 1, 0, none, true⟩, ⟨none, .store 3 (.tmp 30) (.tmp 28), 0, none, true⟩])
  (.seq (.region [⟨some 31, .move (.tmp 3), 70, none, true⟩, ⟨some 2, .assign (.tmp 31), 70, none, true⟩])
  .ret))))
noncomputable def f52 : AFn := ⟨32, [.tmp 2], b52⟩
/-- novation/novationref4.Right -/
noncomputable def b53 : AC :=
  .seq (.region [⟨some 1, .box 38 (.tmp 0), 0, none, true⟩, ⟨some 2, .assign (.const (.bool false)), 4, none, true⟩])
  (.seq (.seq (.region [⟨some 9, .fieldAddr 38 (.tmp 1) 0, 0, none, true⟩, ⟨some 10, .load 3 (.tmp 9), 3, none, true⟩, ⟨some 11, .call (⟨.value (.func 83), #[.tmp 10], #[3]⟩), 4, none, true⟩, ⟨some 12, .unOp .not 4 (.tmp 11), 4, none, true⟩])
  (.cond (.tmp 12) (.seq (.region [⟨some 2, .assign (.const (.bool false)), 4, none, true⟩])
  .ret) .skip))
  (.seq (.region [⟨some 13, .fieldAddr 38 (.tmp 1) 0, 0, none, true⟩, ⟨some 14, .load 3 (.tmp 13), 3, none, true⟩, ⟨some 15, .call (⟨.value (.func 54), #[.tmp 14], #[3]⟩), 9, none, true⟩, ⟨some 3, .assign (.tmp 15), 9, none, true⟩])
  (.seq (.region [⟨some 16, .fieldAddr 38 (.tmp 1) 0, 0, none, true⟩, ⟨some 17, .load 3 (.tmp 16), 3, none, true⟩, ⟨some 18, .build 38 #[(0, .tmp 17)], 38, none, true⟩, ⟨some 4, .alloc 38, 0, none, true⟩, ⟨none, .store 38 (.tmp 4) (.tmp 18), 0, none, true⟩])
  (.seq (.seq (.region [⟨some 5, .assign (.const (.int .i64 0)), 3, none, true⟩])
  (.block 0 (.loop [false, true, false, true, true, true, false, false, false, false, false, false, false, false, false, false, false, false, false, false, false, false, false, false, false, false, false, false, false, false, false, false, false, false, false, false, false, false, false, false, false, false, false, false, false, false, false, false, false, false, false, false, false, false, false, false] (.seq (.seq (.region [⟨some 19, .move (.tmp 5), 3, none, true⟩, ⟨some 20, .move (.tmp 3), 9, none, true⟩, ⟨some 21, .call (⟨.builtin .len, #[.tmp 20], #[9]⟩), 3, none, true⟩, ⟨some 22, .binOp .lss 3 (.tmp 19) (.tmp 21) 3, 4, none, true⟩])
  (.cond (.tmp 22) .skip (.exit 0)))
  (.seq (.block 1 (.seq (.draw (drawOf T.c53 8) [0, 1, 2, 3, 4, 5, 6, 7, 8, 9, 10] [[], [0], [], [], [2, 3], [0, 1, 2, 3, 4], [0, 1, 2, 3, 4, 5], [0, 1, 2, 3, 4, 5, 6], [0, 1, 2, 3, 4, 5, 6], [0, 1, 2, 3, 4, 5, 6, 7], [0, 1, 2, 3, 4, 5, 6, 7, 8, 9]])
  (.seq (.draw (drawOf T.c53 9) [0, 1, 2, 3, 4, 5] [[], [], [], [1, 2], [0, 1, 2, 3], [0, 1, 2, 3, 4]])
  (.seq (.seq (.region [⟨some 39, .move (.tmp 8), 2, none, true⟩, ⟨some 40, .move (.tmp 6), 2, none, true⟩, ⟨some 41, .binOp .lss 2 (.tmp 39) (.tmp 40) 2, 4, none, true⟩, ⟨some 42, .move (.tmp 41), 4, none, true⟩, ⟨some 43, .move (.tmp 8), 2, some (some 42), false⟩, ⟨some 44, .move (.tmp 7), 2, some (some 42), false⟩, ⟨some 45, .binOp .gtr 2 (.tmp 43) (.tmp 44) 2, 4, some (some 42), false⟩, ⟨some 46, .pick (.tmp 42) (.const (.bool true)) (.tmp 45), 4, none, true⟩])
  (.cond (.tmp 46) (.seq (.region [⟨some 2, .assign (.const (.bool false)), 4, none, true⟩])
  .ret) .skip))
  (.draw (drawOf T.c53 12) [0, 1, 2, 3, 4, 5, 6] [[], [], [], [1, 2], [], [0, 1, 2, 3, 4], [0, 1, 2, 3, 4, 5]])))))
  (.region [⟨some 23, .move (.tmp 5), 3, none, true⟩, ⟨some 24, .binOp .add 3 (.tmp 23) (.const (.int .i64 1)) 3, 3, none, true⟩, ⟨some 5, .assign (.tmp 24), 3, none, true⟩]))))))
  (.seq (.region [⟨some 53, .load 38 (.tmp 4), 38, none, true⟩, ⟨some 54, .load 38 (.tmp 1), 38, none, true⟩, ⟨some 55, .binOp .eql 38 (.tmp 53) (.tmp 54) 38, 4, none, true⟩, ⟨some 2, .assign (.tmp 55), 4, none, true⟩])
  .ret)))))
noncomputable def f53 : AFn := ⟨56, [.tmp 2], b53⟩
/-- novation/novationref4.Fields -/
noncomputable def b54 : AC :=
  .seq (.region [⟨some 2, .assign (.const (.string (⟨#[]⟩))), 9, none, true⟩])
  (.seq (.seq (.region [⟨some 3, .move (.tmp 0), 3, none, true⟩])
  (.block 0 (.seq (.seq (.region [⟨some 5, .binOp .eql 3 (.tmp 3) (.const (.int .i64 1)) 3, 4, none, true⟩, ⟨some 4, .assign (.tmp 5), 4, none, true⟩])
  (.cond (.tmp 4) .skip (.seq (.region [⟨some 6, .binOp .eql 3 (.tmp 3) (.const (.int .i64 11)) 3, 4, none, true⟩, ⟨some 4, .assign (.tmp 6), 4, none, true⟩])
  (.cond (.tmp 4) .skip (.seq (.region [⟨some 7, .binOp .eql 3 (.tmp 3) (.const (.int .i64 12)) 3, 4, none, true⟩, ⟨some 4, .assign (.tmp 7), 4, none, true⟩])
  (.cond (.tmp 4) .skip (.region [⟨some 8, .binOp .eql 3 (.tmp 3) (.const (.int .i64 13)) 3, 4, none, true⟩, ⟨some 4, .assign (.tmp 8), 4, none, true⟩])))))))
  (.cond (.tmp 4) (.seq (.region [⟨some 2, .assign (.const (.string (⟨#[77]⟩))), 9, none, true⟩])
  .ret) (.seq (.region [⟨some 10, .binOp .eql 3 (.tmp 3) (.const (.int .i64 2)) 3, 4, none, true⟩, ⟨some 9, .assign (.tmp 10), 4, none, true⟩])
  (.cond (.tmp 9) (.seq (.region [⟨some 2, .assign (.const (.string (⟨#[77, 65, 83]⟩))), 9, none, true⟩])
  .ret) (.seq (.seq (.region [⟨some 12, .binOp .eql 3 (.tmp 3) (.const (.int .i64 3)) 3, 4, none, true⟩, ⟨some 11, .assign (.tmp 12), 4, none, true⟩])
  (.cond (.tmp 11) .skip (.seq (.region [⟨some 13, .binOp .eql 3 (.tmp 3) (.const (.int .i64 4)) 3, 4, none, true⟩, ⟨some 11, .assign (.tmp 13), 4, none, true⟩])
  (.cond (.tmp 11) .skip (.region [⟨some 14, .binOp .eql 3 (.tmp 3) (.const (.int .i64 6)) 3, 4, none, true⟩, ⟨some 11, .assign (.tmp 14), 4, none, true⟩])))))
  (.cond (.tmp 11) (.seq (.region [⟨some 2, .assign (.const (.string (⟨#[65, 81]⟩))), 9, none, true⟩])
  .ret) (.seq (.seq (.region [⟨some 16, .binOp .eql 3 (.tmp 3) (.const (.int .i64 5)) 3, 4, none, true⟩, ⟨some 15, .assign (.tmp 16), 4, none, true⟩])
  (.cond (.tmp 15) .skip (.region [⟨some 17, .binOp .eql 3 (.tmp 3) (.const (.int .i64 22)) 3, 4, none, true⟩, ⟨some 15, .assign (.tmp 17), 4, none, true⟩])))
  (.cond (.tmp 15) (.seq (.region [⟨some 2, .assign (.const (.string (⟨#[77, 81]⟩))), 9, none, true⟩])
  .ret) (.seq (.region [⟨some 19, .binOp .eql 3 (.tmp 3) (.const (.int .i64 7)) 3, 4, none, true⟩, ⟨some 18, .assign (.tmp 19), 4, none, true⟩])
  (.cond (.tmp 18) (.seq (.region [⟨some 2, .assign (.const (.string (⟨#[65, 73, 83, 81, 80]⟩))), 9, none, true⟩])
  .ret) (.seq (.region [⟨some 21, .binOp .eql 3 (.tmp 3) (.const (.int .i64 8)) 3, 4, none, true⟩, ⟨some 20, .assign (.tmp 21), 4, none, true⟩])
  (.cond (.tmp 20) (.seq (.region [⟨some 2, .assign (.const (.string (⟨#[65, 68]⟩))), 9, none, true⟩])
  .ret) (.seq (.region [⟨some 23, .binOp .eql 3 (.tmp 3) (.const (.int .i64 9)) 3, 4, none, true⟩, ⟨some 22, .assign (.tmp 23), 4, none, true⟩])
  (.cond (.tmp 22) (.seq (.region [⟨some 2, .assign (.const (.string (⟨#[73, 80]⟩))), 9, none, true⟩])
  .ret) (.seq (.region [⟨some 25, .binOp .eql 3 (.tmp 3) (.const (.int .i64 10)) 3, 4, none, true⟩, ⟨some 24, .assign (.tmp 25), 4, none, true⟩])
  (.cond (.tmp 24) (.seq (.region [⟨some 2, .assign (.const (.string (⟨#[81]⟩))), 9, none, true⟩])
  .ret) (.seq (.region [⟨some 27, .binOp .eql 3 (.tmp 3) (.const (.int .i64 14)) 3, 4, none, true⟩, ⟨some 26, .assign (.tmp 27), 4, none, true⟩])
  (.cond (.tmp 26) (.seq (.region [⟨some 2, .assign (.const (.string (⟨#[77, 65]⟩))), 9, none, true⟩])
  .ret) (.seq (.region [⟨some 29, .binOp .eql 3 (.tmp 3) (.const (.int .i64 17)) 3, 4, none, true⟩, ⟨some 28, .assign (.tmp 29), 4, none, true⟩])
  (.cond (.tmp 28) (.seq (.region [⟨some 2, .assign (.const (.string (⟨#[65, 68, 81, 80]⟩))), 9, none, true⟩])
  .ret) (.seq (.region [⟨some 31, .binOp .eql 3 (.tmp 3) (.const (.int .i64 19)) 3, 4, none, true⟩, ⟨some 30, .assign (.tmp 31), 4, none, true⟩])
  (.cond (.tmp 30) (.seq (.region [⟨some 2, .assign (.const (.string (⟨#[77, 68, 80]⟩))), 9, none, true⟩])
  .ret) .skip))))))))))))))))))))))))
  (.seq (.region [⟨some 2, .assign (.const (.string (⟨#[]⟩))), 9, none, true⟩])
  .ret))
noncomputable def f54 : AFn := ⟨32, [.tmp 2], b54⟩
/-- novation/novationref4.value -/
noncomputable def b55 : AC :=
  .seq (.region [⟨some 2, .box 38 (.tmp 0), 0, none, true⟩, ⟨some 4, .assign (.const (.int .i64 0)), 2, none, true⟩])
  (.seq (.seq (.region [⟨some 5, .move (.tmp 1), 5, none, true⟩])
  (.block 0 (.seq (.region [⟨some 7, .binOp .eql 5 (.tmp 5) (.const (.int .u8 77)) 5, 4, none, true⟩, ⟨some 6, .assign (.tmp 7), 4, none, true⟩])
  (.cond (.tmp 6) (.seq (.region [⟨some 8, .fieldAddr 38 (.tmp 2) 1, 0, none, true⟩, ⟨some 9, .load 3 (.tmp 8), 3, none, true⟩, ⟨some 4, .assign (.tmp 9), 2, none, true⟩])
  .ret) (.seq (.region [⟨some 11, .binOp .eql 5 (.tmp 5) (.const (.int .u8 65)) 5, 4, none, true⟩, ⟨some 10, .assign (.tmp 11), 4, none, true⟩])
  (.cond (.tmp 10) (.seq (.region [⟨some 12, .fieldAddr 38 (.tmp 2) 2, 0, none, true⟩, ⟨some 13, .load 3 (.tmp 12), 3, none, true⟩, ⟨some 4, .assign (.tmp 13), 2, none, true⟩])
  .ret) (.seq (.region [⟨some 15, .binOp .eql 5 (.tmp 5) (.const (.int .u8 73)) 5, 4, none, true⟩, ⟨some 14, .assign (.tmp 15), 4, none, true⟩])
  (.cond (.tmp 14) (.seq (.region [⟨some 16, .fieldAddr 38 (.tmp 2) 3, 0, none, true⟩, ⟨some 17, .load 3 (.tmp 16), 3, none, true⟩, ⟨some 4, .assign (.tmp 17), 2, none, true⟩])
  .ret) (.seq (.region [⟨some 19, .binOp .eql 5 (.tmp 5) (.const (.int .u8 83)) 5, 4, none, true⟩, ⟨some 18, .assign (.tmp 19), 4, none, true⟩])
  (.cond (.tmp 18) (.seq (.region [⟨some 20, .fieldAddr 38 (.tmp 2) 4, 0, none, true⟩, ⟨some 21, .load 3 (.tmp 20), 3, none, true⟩, ⟨some 4, .assign (.tmp 21), 2, none, true⟩])
  .ret) (.seq (.region [⟨some 23, .binOp .eql 5 (.tmp 5) (.const (.int .u8 68)) 5, 4, none, true⟩, ⟨some 22, .assign (.tmp 23), 4, none, true⟩])
  (.cond (.tmp 22) (.seq (.region [⟨some 24, .fieldAddr 38 (.tmp 2) 5, 0, none, true⟩, ⟨some 25, .load 2 (.tmp 24), 2, none, true⟩, ⟨some 4, .assign (.tmp 25), 2, none, true⟩])
  .ret) (.seq (.region [⟨some 27, .binOp .eql 5 (.tmp 5) (.const (.int .u8 81)) 5, 4, none, true⟩, ⟨some 26, .assign (.tmp 27), 4, none, true⟩])
  (.cond (.tmp 26) (.seq (.region [⟨some 28, .fieldAddr 38 (.tmp 2) 6, 0, none, true⟩, ⟨some 29, .load 2 (.tmp 28), 2, none, true⟩, ⟨some 4, .assign (.tmp 29), 2, none, true⟩])
  .ret) .skip))))))))))))))
  (.seq (.region [⟨some 30, .fieldAddr 38 (.tmp 2) 7, 0, none, true⟩, ⟨some 31, .load 2 (.tmp 30), 2, none, true⟩, ⟨some 4, .assign (.tmp 31), 2, none, true⟩])
  .ret))
noncomputable def f55 : AFn := ⟨32, [.tmp 4], b55⟩
/-- (*novation/novationseat.Deck).mark -/
noncomputable def b56 : AC :=
  .seq (.region [⟨some 4, .box 28 (.tmp 1), 0, none, true⟩, ⟨some 6, .alloc 38, 0, none, true⟩])
  (.seq (.draw (drawOf T.c56 1) [0, 1, 2, 3, 4, 5, 6, 7, 8, 14, 9, 10, 11, 12, 13, 15] [[], [], [1], [], [1, 2, 3], [1, 2, 3, 4], [1, 2, 3, 4, 5], [], [7], [1, 2, 3, 4, 5, 6, 7, 8], [1, 2, 3, 4, 5, 6, 7, 8, 9], [1, 2, 3, 4, 5, 6, 7, 8, 9, 10], [1, 2, 3, 4, 5, 6, 7, 8, 9, 10, 11], [0, 1, 2, 3, 4, 5, 6, 7, 8, 9, 10, 11, 12], [], [0, 1, 2, 3, 4, 5, 6, 7, 8, 9, 10, 11, 12, 13, 14]])
  (.seq (.seq (.region [⟨some 22, .move (.tmp 0), 24, none, true⟩, ⟨some 23, .call (⟨.value (.func 26), #[.tmp 22, .const (.int .i64 20)], #[24, 3]⟩), 4, none, true⟩])
  (.cond (.tmp 23) (.region [⟨some 24, .move (.tmp 0), 24, none, true⟩, ⟨some 25, .call (⟨.value (.func 38), #[.tmp 24], #[24]⟩), 2, none, true⟩, ⟨some 26, .binOp .rem 2 (.tmp 25) (.const (.int .i64 1000000000000)) 2, 2, none, true⟩, ⟨some 27, .binOp .add 2 (.const (.int .i64 1)) (.tmp 26) 2, 2, none, true⟩, ⟨some 28, .fieldAddr 38 (.tmp 7) 7, 0, none, true⟩, ⟨none, .store 2 (.tmp 28) (.tmp 27), 0, none, true⟩]) .skip))
  (.seq (.region [⟨some 29, .load 38 (.tmp 7), 38, none, true⟩, ⟨none, .store 38 (.tmp 6) (.tmp 29), 0, none, true⟩])
  .ret)))
noncomputable def f56 : AFn := ⟨30, [.cell 6 38], b56⟩
/-- (*novation/novationseat.Deck).order -/
noncomputable def b57 : AC :=
  .seq (.region [⟨some 3, .box 28 (.tmp 1), 0, none, true⟩, ⟨some 4, .alloc 38, 0, none, true⟩])
  (.seq (.region [⟨some 7, .move (.tmp 0), 24, none, true⟩, ⟨some 8, .fieldAddr 28 (.tmp 3) 0, 0, none, true⟩, ⟨some 9, .load 26 (.tmp 8), 26, none, true⟩, ⟨some 10, .call (⟨.builtin .len, #[.tmp 9], #[26]⟩), 3, none, true⟩, ⟨some 11, .call (⟨.value (.func 29), #[.tmp 7, .tmp 10], #[24, 3]⟩), 3, none, true⟩, ⟨some 5, .assign (.tmp 11), 3, none, true⟩])
  (.seq (.draw (drawOf T.c57 2) [0, 3, 4, 7, 10, 11, 12, 13, 14, 15, 16, 1, 2, 5, 6, 8, 9, 17, 23, 18, 19, 20, 21, 22, 24] [[], [0], [0, 1], [], [], [0, 1, 4], [0, 1, 4, 5], [], [0, 1, 4, 5, 7], [0, 1, 4, 5, 7, 8], [], [10], [], [10, 11, 12], [10, 11, 12, 13], [10, 11, 12, 13, 14], [], [0, 1, 4, 5, 7, 8, 16], [0, 1, 4, 5, 7, 8, 10, 11, 12, 13, 14, 15, 16, 17], [0, 1, 4, 5, 7, 8, 10, 11, 12, 13, 14, 15, 16, 17, 18], [0, 1, 4, 5, 7, 8, 10, 11, 12, 13, 14, 15, 16, 17, 18, 19], [0, 1, 4, 5, 7, 8, 10, 11, 12, 13, 14, 15, 16, 17, 18, 19, 20], [0, 1, 2, 3, 4, 5, 6, 7, 8, 9, 10, 11, 12, 13, 14, 15, 16, 17, 18, 19, 20, 21], [], [0, 1, 2, 3, 4, 5, 6, 7, 8, 9, 10, 11, 12, 13, 14, 15, 16, 17, 18, 19, 20, 21, 22, 23]])
  (.seq (.seq (.region [⟨some 35, .move (.tmp 0), 24, none, true⟩, ⟨some 36, .call (⟨.value (.func 26), #[.tmp 35, .const (.int .i64 30)], #[24, 3]⟩), 4, none, true⟩])
  (.cond (.tmp 36) (.region [⟨some 37, .move (.tmp 0), 24, none, true⟩, ⟨some 38, .call (⟨.value (.func 38), #[.tmp 37], #[24]⟩), 2, none, true⟩, ⟨some 39, .binOp .rem 2 (.tmp 38) (.const (.int .i64 1000000000)) 2, 2, none, true⟩, ⟨some 40, .binOp .add 2 (.const (.int .i64 1)) (.tmp 39) 2, 2, none, true⟩, ⟨some 41, .move (.tmp 0), 24, none, true⟩, ⟨some 42, .call (⟨.value (.func 38), #[.tmp 41], #[24]⟩), 2, none, true⟩, ⟨some 43, .binOp .rem 2 (.tmp 42) (.const (.int .i64 1000000000000)) 2, 2, none, true⟩, ⟨some 44, .binOp .add 2 (.const (.int .i64 1)) (.tmp 43) 2, 2, none, true⟩, ⟨some 45, .fieldAddr 38 (.tmp 6) 6, 0, none, true⟩, ⟨none, .store 2 (.tmp 45) (.tmp 40), 0, none, true⟩, ⟨some 46, .fieldAddr 38 (.tmp 6) 7, 0, none, true⟩, ⟨none, .store 2 (.tmp 46) (.tmp 44), 0, none, true⟩]) .skip))
  (.seq (.region [⟨some 47, .load 38 (.tmp 6), 38, none, true⟩, ⟨none, .store 38 (.tmp 4) (.tmp 47), 0, none, true⟩])
  .ret))))
noncomputable def f57 : AFn := ⟨48, [.cell 4 38], b57⟩
/-- (*novation/novationref4.Tape).falls -/
noncomputable def b58 : AC :=
  .seq (.region [⟨some 2, .assign (.const (.bool false)), 4, none, true⟩])
  (.seq (.seq (.region [⟨some 3, .move (.tmp 0), 57, none, true⟩, ⟨some 4, .nilCheck (.tmp 3), 0, none, true⟩, ⟨some 5, .fieldAddr 94 (.tmp 4) 2, 0, none, true⟩, ⟨some 6, .load 4 (.tmp 5), 4, none, true⟩, ⟨some 7, .unOp .not 4 (.tmp 6), 4, none, true⟩])
  (.cond (.tmp 7) (.seq (.region [⟨some 2, .assign (.const (.bool false)), 4, none, true⟩])
  .ret) .skip))
  (.seq (.seq (.region [⟨some 8, .move (.tmp 0), 57, none, true⟩, ⟨some 9, .nilCheck (.tmp 8), 0, none, true⟩, ⟨some 10, .fieldAddr 94 (.tmp 9) 3, 0, none, true⟩, ⟨some 11, .load 3 (.tmp 10), 3, none, true⟩, ⟨some 12, .binOp .gtr 3 (.tmp 11) (.const (.int .i64 0)) 3, 4, none, true⟩])
  (.cond (.tmp 12) (.seq (.region [⟨some 13, .move (.tmp 0), 57, none, true⟩, ⟨some 14, .nilCheck (.tmp 13), 0, none, true⟩, ⟨some 15, .fieldAddr 94 (.tmp 14) 3, 0, none, true⟩, ⟨some 16, .load 3 (.tmp 15), 3, none, true⟩, ⟨some 17, .binOp .sub 3 (.tmp 16) (.const (.int .i64 1)) 3, 3, none, true⟩, ⟨some 18, .nilCheck (.tmp 13), 0, none, true⟩, ⟨some 19, .fieldAddr 94 (.tmp 18) 3, 0, none, true⟩, ⟨none, .store 3 (.tmp 19) (.tmp 17), 0, none, true⟩])
  (.seq (.region [⟨some 2, .assign (.const (.bool false)), 4, none, true⟩])
  .ret)) .skip))
  (.seq (.region [⟨some 20, .move (.tmp 0), 57, none, true⟩, ⟨some 21, .move (.tmp 0), 57, none, true⟩, ⟨some 22, .nilCheck (.tmp 20), 0, none, true⟩, ⟨some 23, .fieldAddr 94 (.tmp 22) 2, 0, none, true⟩, ⟨none, .store 4 (.tmp 23) (.const (.bool false)), 0, none, true⟩, ⟨some 24, .nilCheck (.tmp 21), 0, none, true⟩, ⟨some 25, .fieldAddr 94 (.tmp 24) 5, 0, none, true⟩, ⟨none, .store 4 (.tmp 25) (.const (.bool true)), 0, none, true⟩])
  (.seq (.region [⟨some 2, .assign (.const (.bool true)), 4, none, true⟩])
  .ret))))
noncomputable def f58 : AFn := ⟨26, [.tmp 2], b58⟩
/-- (*novation/novationref4.Tape).Read -/
noncomputable def b59 : AC :=
  .seq (.region [⟨some 2, .assign (.const (.slice none 0 0)), 41, none, true⟩, ⟨some 3, .assign (.const (.int .i64 0)), 34, none, true⟩])
  (.seq (.seq (.region [⟨some 4, .move (.tmp 0), 57, none, true⟩, ⟨some 5, .nilCheck (.tmp 4), 0, none, true⟩, ⟨some 6, .fieldAddr 94 (.tmp 5) 5, 0, none, true⟩, ⟨some 7, .load 4 (.tmp 6), 4, none, true⟩])
  (.cond (.tmp 7) (.seq (.region [⟨some 2, .assign (.const (.slice none 0 0)), 41, none, true⟩, ⟨some 3, .assign (.const (.int .i64 15)), 34, none, true⟩])
  .ret) .skip))
  (.seq (.region [⟨some 8, .buildSlice 41 0 #[], 41, none, true⟩, ⟨some 9, .move (.tmp 0), 57, none, true⟩, ⟨some 10, .nilCheck (.tmp 9), 0, none, true⟩, ⟨some 11, .fieldAddr 94 (.tmp 10) 0, 0, none, true⟩, ⟨some 12, .load 41 (.tmp 11), 41, none, true⟩, ⟨some 13, .call (⟨.builtin .append, #[.tmp 8, .tmp 12], #[41, 41]⟩), 41, none, true⟩, ⟨some 2, .assign (.tmp 13), 41, none, true⟩, ⟨some 3, .assign (.const (.int .i64 0)), 34, none, true⟩])
  .ret))
end Go.Proofs.Ytcmpldjoggeceaa.T
end
