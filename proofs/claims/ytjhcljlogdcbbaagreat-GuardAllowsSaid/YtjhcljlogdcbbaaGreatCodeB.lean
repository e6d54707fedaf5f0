/-
  The images of some of the program's functions, as the kernel reckons them. Made by program. No condition.
-/
import Derived.Test.YtjhcljlogdcbbaaGreatF26
set_option maxRecDepth 100000
namespace Go.Abs
open Go.Proofs

abbrev n_guard_rules_1 : Nat := 49
theorem h_guard_rules_1 : Tryz.prog.funcs[49]? = some Tryz.f49 := Tryz.func49
def c_guard_rules_1 : AC :=
  Q [.reg [bx 4 1] [0, 2, 4],
  .reg [l1 5 2, m 6 0, la 7 4 3, o1 8 (.bld [.str [], .int .i64 0, .nil 1, .str [], .bool false] [(0, 1, (.t 6)), (1, 3, (.t 7))]), o1 9 (.lit 5 [.t 8]), o1 10 (.app (.t 5) (.t 9) 45 5 72), st 1 2 10] [2]]
theorem i_guard_rules_1 : imageE Tryz.prog Tryz.f49 [2] [] [[0, 2, 4], [2]] 3 = some (c_guard_rules_1, []) := by kernel_rfl

abbrev n_guard_rules : Nat := 31
theorem h_guard_rules : Tryz.prog.funcs[31]? = some Tryz.f31 := Tryz.func31
def c_guard_rules : AC :=
  Q [.reg [mv 2 (.nil 5)] [0],
  .reg [o1 3 (.alc [.nil 5])] [0, 3],
  .reg [o1 7 (.mkf (.func 49) [] [.t 3]), m 4 7] [0, 3, 4],
  .reg [m 8 4, o1 9 (.bld [.int .i64 0, .nil 1, .str []] [(0, 1, (.v (.int .i64 4))), (2, 1, (.v (.str [91, 94, 32, 45, 126, 93])))]), o1 10 (.callv (.t 8) [.v (.str [111, 110, 42]), .t 9])] [0, 3, 4],
  .reg [m 11 4, ca 12 50 [], o1 13 (.callv (.t 11) [.v (.str [97, 99, 116, 105, 111, 110]), .t 12])] [0, 3, 4],
  .reg [m 14 4, ca 15 50 [], o1 16 (.callv (.t 14) [.v (.str [104, 114, 101, 102]), .t 15])] [0, 3, 4],
  .reg [m 17 4, ca 18 50 [], o1 19 (.callv (.t 17) [.v (.str [115, 114, 99]), .t 18])] [0, 3, 4],
  Q [.reg [m 20 0, lq 21 20, mi 22 0] [3, 4, 20, 21, 22],
   .block 0 (.loop [3, 4, 20, 21, 22] (Q [.reg [bt 23 .lss 22 21] [3, 4, 20, 21, 22, 23],
      C 23 (.skip) (.exit 0),
      .block 1 (Q [.reg [ia 24 20 22 5, la 25 24 5, o1 6 (.alc [.str [], .int .i64 0, .nil 1, .str [], .bool false]), st 5 6 25] [3, 4, 6, 20, 21, 22],
        .reg [fa 26 6 0, l1 27 26] [3, 4, 6, 20, 21, 22, 27],
        .block 2 (Q [Q [.reg [bs 34 .eql 27 [111, 110, 42], m 33 34] [3, 4, 6, 20, 21, 22, 27, 33],
           C 33 (.skip) (Q [.reg [bs 35 .eql 27 [97, 99, 116, 105, 111, 110], m 33 35] [3, 4, 6, 20, 21, 22, 27, 33],
             C 33 (.skip) (Q [.reg [bs 36 .eql 27 [104, 114, 101, 102], m 33 36] [3, 4, 6, 20, 21, 22, 27, 33],
               C 33 (.skip) (.reg [bs 37 .eql 27 [115, 114, 99], m 33 37] [3, 4, 6, 20, 21, 22, 33])])])],
          C 33 (.skip) (.reg [m 28 4, fa 29 6 0, l1 30 29, o1 31 (.bld [.int .i64 0, .nil 1, .str []] [(0, 1, (.v (.int .i64 1)))]), cv 32 28 [30, 31]] [3, 4, 20, 21, 22])])]),
      .reg [bi 38 .add 22 1, m 22 38] [3, 4, 20, 21, 22]]))],
  .reg [l1 39 3, m 2 39] [2],
  .ret]
theorem i_guard_rules : image Tryz.prog Tryz.f31 [[0], [0, 3], [0, 3, 4], [0, 3, 4], [0, 3, 4], [0, 3, 4], [0, 3, 4], [3, 4, 20, 21, 22], [3, 4, 20, 21, 22], [3, 4, 20, 21, 22, 23], [3, 4, 6, 20, 21, 22], [3, 4, 6, 20, 21, 22, 27], [3, 4, 6, 20, 21, 22, 27, 33], [3, 4, 6, 20, 21, 22, 27, 33], [3, 4, 6, 20, 21, 22, 27, 33], [3, 4, 6, 20, 21, 22, 33], [3, 4, 20, 21, 22], [3, 4, 20, 21, 22], [2]] 1 = some (c_guard_rules, [.t 2]) := by kernel_rfl

abbrev n_guard_harmless : Nat := 29
theorem h_guard_harmless : Tryz.prog.funcs[29]? = some Tryz.f29 := Tryz.func29
def c_guard_harmless : AC :=
  Q [.reg [mv 2 (.nil 1)] [0],
  .reg [mv 3 (.nil 1)] [0, 3],
  Q [.reg [m 6 0, lq 7 6, mi 8 0] [3, 6, 7, 8],
   .block 0 (.loop [3, 6, 7, 8] (Q [.reg [bt 9 .lss 8 7] [3, 6, 7, 8, 9],
      C 9 (.skip) (.exit 0),
      .block 1 (Q [.reg [ia 10 6 8 1, l1 11 10, m 5 11] [3, 5, 6, 7, 8],
        .reg [m 12 5, ca 13 30 [12], nt' 14 13] [3, 5, 6, 7, 8, 14],
        C 14 (.reg [m 15 3, m 16 5, o1 17 (.lit 1 [.t 16]), o1 18 (.app (.t 15) (.t 17) 9 1 16), m 3 18] [3, 6, 7, 8]) (.skip)]),
      .reg [bi 19 .add 8 1, m 8 19] [3, 6, 7, 8]]))],
  .reg [m 20 3, m 2 20] [2],
  .ret]
theorem i_guard_harmless : image Tryz.prog Tryz.f29 [[0], [0, 3], [3, 6, 7, 8], [3, 6, 7, 8], [3, 6, 7, 8, 9], [3, 5, 6, 7, 8], [3, 5, 6, 7, 8, 14], [3, 6, 7, 8], [3, 6, 7, 8], [2]] 1 = some (c_guard_harmless, [.t 2]) := by kernel_rfl

abbrev n_guard_Guard : Nat := 11
theorem h_guard_Guard : Tryz.prog.funcs[11]? = some Tryz.f11 := Tryz.func11
def c_guard_Guard : AC :=
  Q [.reg [bx 1 0, o1 2 (.alc [.nil 1, .nil 3, .nil 1])] [1, 2],
  .reg [fa 6 1 0, l1 7 6, ca 8 29 [7], o1 9 (.bld [.nil 1, .nil 3, .nil 1] [(0, 1, (.t 8))]), o1 3 (.alc [.nil 1, .nil 3, .nil 1]), st 3 3 9] [1, 2, 3],
  Q [.reg [fa 10 1 1, l1 11 10, lq 12 11, mi 13 0] [2, 3, 11, 12, 13],
   .block 0 (.loop [2, 3, 11, 12, 13] (Q [.reg [bt 14 .lss 13 12] [2, 3, 11, 12, 13, 14],
      C 14 (.skip) (.exit 0),
      .block 1 (Q [.reg [ia 15 11 13 3, la 16 15 3, o1 5 (.alc [.str [], .nil 1, .nil 5]), st 3 5 16] [2, 3, 5, 11, 12, 13],
        .reg [fa 17 5 0, l1 18 17, ca 19 30 [18], nt' 20 19] [2, 3, 5, 11, 12, 13, 20],
        C 20 (.regD [fa 21 3 1, l1 22 21, fa 23 5 0, l1 24 23, fa 25 5 1, l1 26 25, ca 27 29 [26], fa 28 5 2, l1 29 28, ca 30 31 [29], o1 31 (.bld [.str [], .nil 1, .nil 5] [(0, 1, (.t 24)), (1, 1, (.t 27)), (2, 1, (.t 30))]), o1 32 (.lit 3 [.t 31]), o1 33 (.app (.t 22) (.t 32) 34 3 64), fa 34 3 1, st 1 34 33] [2, 3, 11, 12, 13]) (.skip)]),
      .reg [bi 35 .add 13 1, m 13 35] [2, 3, 11, 12, 13]]))],
  .reg [la 36 3 3, st 3 2 36] [2],
  .ret]
theorem i_guard_Guard : image Tryz.prog Tryz.f11 [[1, 2], [1, 2, 3], [2, 3, 11, 12, 13], [2, 3, 11, 12, 13], [2, 3, 11, 12, 13, 14], [2, 3, 5, 11, 12, 13], [2, 3, 5, 11, 12, 13, 20], [0, 0, 1, 0, 4, 0, 16, 48, 0, 128, 496, 1020, 2044, 4095, 8191, 16383], [0, 1, 2, 3, 4, 5, 6, 7, 8, 9, 10, 11, 12, 13, 14], [2, 3, 11, 12, 13], [2, 3, 11, 12, 13], [2]] 1 = some (c_guard_Guard, [.c 2 3 true]) := by kernel_rfl

abbrev n_ref21_Dangerous : Nat := 32
theorem h_ref21_Dangerous : Tryz.prog.funcs[32]? = some Tryz.f32 := Tryz.func32
def c_ref21_Dangerous : AC :=
  Q [.reg [bx 1 0, mb 2 false] [1],
  Q [.reg [fa 9 1 0, l1 10 9, bi 11 .neq 10 1] [1, 11],
   C 11 (Q [.reg [mb 2 false] [2],
     .ret]) (.skip)],
  .reg [fa 12 1 1, l1 13 12, ca 14 19 [13], m 3 14] [1, 3],
  Q [.reg [mi 4 0] [1, 3, 4],
   .block 0 (.loop [1, 3, 4] (Q [Q [.reg [m 15 4, fa 16 1 2, l1 17 16, lq 18 17, bt 19 .lss 15 18] [1, 3, 4, 19],
       C 19 (.skip) (.exit 0)],
      .block 1 (Q [.reg [fa 22 1 2, l1 23 22, m 24 4, ia 25 23 24 2, la 26 25 2, o1 5 (.alc [.str [], .str []]), st 2 5 26] [1, 3, 4, 5],
        .reg [fa 27 5 0, l1 28 27, ls 29 28, bi 30 .geq 29 2, m 31 30, gt 31 (fa 32 5 0), gt 31 (l1 33 32), gt 31 (o1 34 (.sls (.t 33) none (some (.v (.int .i64 2))))), gt 31 (bs 35 .eql 34 [111, 110]), pa 36 31 35, m 6 36] [1, 3, 4, 5, 6],
        .reg [fa 37 5 0, l1 38 37, ca 39 20 [38], m 7 39] [1, 3, 4, 5, 6, 7],
        .reg [o1 40 (.lit 1 [.v (.str [104, 116, 116, 112]), .v (.str [104, 116, 116, 112, 115]), .v (.str [109, 97, 105, 108, 116, 111])]), o1 41 (.bld [.int .i64 0, .nil 1, .str []] [(0, 1, (.v (.int .i64 3))), (1, 1, (.t 40))]), fa 42 5 1, l1 43 42, ca 44 51 [41, 43], m 8 44] [1, 3, 4, 6, 7, 8],
        .reg [m 45 3, m 46 45, gf 46 (m 47 6), po 48 46 47, m 49 48, gf 49 (m 50 7), gf 49 (m 51 50), gt 51 (m 52 8), gt 51 (nt' 53 52), gf 49 (pa 54 51 53), po 55 49 54, m 3 55] [1, 3, 4]]),
      .reg [m 20 4, bi 21 .add 20 1, m 4 21] [1, 3, 4]]))],
  .reg [m 56 3, m 2 56] [2],
  .ret]
theorem i_ref21_Dangerous : image Tryz.prog Tryz.f32 [[1], [1, 11], [2], [1, 3], [1, 3, 4], [1, 3, 4], [1, 3, 4, 19], [1, 3, 4, 5], [1, 3, 4, 5, 6], [1, 3, 4, 5, 6, 7], [1, 3, 4, 6, 7, 8], [1, 3, 4], [1, 3, 4], [2]] 1 = some (c_ref21_Dangerous, [.t 2]) := by kernel_rfl

abbrev n_ref21_Any : Nat := 12
theorem h_ref21_Any : Tryz.prog.funcs[12]? = some Tryz.f12 := Tryz.func12
def c_ref21_Any : AC :=
  Q [.reg [mb 2 false] [0],
  Q [.reg [mi 3 0] [0, 3],
   .block 0 (.loop [0, 3] (Q [Q [.reg [m 6 3, m 7 0, lq 8 7, bt 9 .lss 6 8] [0, 3, 9],
       C 9 (.skip) (.exit 0)],
      .block 1 (Q [.reg [m 12 0, m 13 3, ia 14 12 13 5, la 15 14 5, ca 16 32 [15], m 4 16] [0, 3, 4],
        .reg [m 17 0, m 18 3, ia 19 17 18 5, fa 20 19 4, l1 21 20, ca 22 12 [21], m 5 22] [0, 3, 4, 5],
        .reg [m 23 4, m 24 23, gf 24 (m 25 5), po 26 24 25] [0, 3, 26],
        C 26 (Q [.reg [mb 2 true] [2],
          .ret]) (.skip)]),
      .reg [m 10 3, bi 11 .add 10 1, m 3 11] [0, 3]]))],
  .reg [mb 2 false] [2],
  .ret]
theorem i_ref21_Any : image Tryz.prog Tryz.f12 [[0], [0, 3], [0, 3], [0, 3, 9], [0, 3, 4], [0, 3, 4, 5], [0, 3, 26], [2], [0, 3], [2]] 1 = some (c_ref21_Any, [.t 2]) := by kernel_rfl

abbrev n_law21_GuardAllows : Nat := 4
theorem h_law21_GuardAllows : Tryz.prog.funcs[4]? = some Tryz.f4 := Tryz.func4
def c_law21_GuardAllows : AC :=
  Q [.reg [bx 2 0, mb 4 false] [1, 2],
  .reg [la 7 2 3, ca 8 5 [7], o1 5 (.alc [.nil 1, .nil 3, .nil 1]), st 3 5 8] [1, 5],
  .reg [m 9 1, ca 10 7 [9], m 6 10] [5, 6],
  Q [.reg [la 11 5 3, m 12 6, ca 13 8 [11, 12], nt' 14 13] [5, 6, 14],
   C 14 (Q [.reg [ca 15 10 [], m 4 15] [4],
     .ret]) (.skip)],
  .reg [la 16 5 3, ca 17 11 [16], m 18 6, ca 19 8 [17, 18], m 20 6, ca 21 12 [20], nt' 22 21, o1 23 (.beq false (.t 19) (.t 22)), m 24 23, gt 24 (ca 25 10 []), pa 26 24 25, m 4 26] [4],
  .ret]
theorem i_law21_GuardAllows : image Tryz.prog Tryz.f4 [[1, 2], [1, 5], [5, 6], [5, 6, 14], [4], [4]] 2 = some (c_law21_GuardAllows, [.t 4]) := by kernel_rfl

end Go.Abs
